import Derived.Test.YtakolikdebfkeaaDoorQAM3
import Derived.Test.YtakolikdebfkeaaDoorRows
import Derived.Handed
import Derived.LaidMore
import Derived.LaidLaws
import Derived.LaidHandle
import Derived.MakeChecks
import Derived.SizedLaws
import Derived.Shelf.Vars
import Derived.OpenShut
import Derived.ChangeArms
import Derived.Stop.Joined
import Derived.Test.YtakolikdebfkeaaDoorChecked
open Nat (reduceDiv reduceMod reduceSub reduceAdd reduceLeDiff reduceEqDiff)
set_option linter.all false
namespace Go.Proofs.YtakolikdebfkeaaDoor
open Go.RowKit
theorem ofC_map_U (l:List UInt8):List.map ofC (List.map U l)=Bs l:=by
 induction l with
 | nil=>rfl
 | cons u l ih=>simp only [List.map_cons,ih,ofC_U]; rfl
attribute [go_sem] b_skip b_reg b_draw b_seq b_cond b_block b_loop b_exit b_ret b_nil b_op b_gt b_gf b_dnil b_dop b_dgt b_dgf b_aq isB_t isB_u isB_f isB_g isB_p isU_t isU_b ifB_t ifB_f b_tn b_tx b_tr b_in b_ir b_ix b_rn b_rr b_pt b_pn b_pi b_pv b_of b_mk0 b_mk1 b_lk b_put nR0 nRs sR0 sRs sRn sRm topR hp_toS lk_toS exD AOp.isH keepN preB avalP pureR astep stV stN stE stC aval anew aElems frzS frzH aeff slots aret ares aress AV.isTup n_0 w_0 n_1 w_1 n_2 w_2 n_3 w_3 n_4 w_4 n_5 w_5 n_6 w_6 n_7 w_7 n_8 w_8 n_9 w_9 n_10 w_10 n_11 w_11 n_12 w_12 n_13 w_13 n_14 w_14 n_15 w_15 eqFs aEqS ofC_i ofC_b ofC_s ofC_U getD_mapU getD_Bs Bs_len Int.toNat_natCast opd pt tk subp rdP Rt.size Rt.isAgg Rt.zv aBin aInt aStr arI aUn aToInt aToStr aIdxS zv aIdxA aIa aIaA aFa aLd aFld pparts aLo aHi cutL aSlS aSl aExt aNck aNilc AV.isStr aLen AV.one AV.multi pureB szOk psz drp spl aEqB aEqA aMm aMkfn aMkif aBuild toV aBuildA wrP unparts view nilS St.ev lk St.put St.pin St.pinV acall0_if acall1 acall2 acall3_none acall3_if acall3b emp3 pv pvr pvs isP_nil isP_cons bor bor0 bor1 phiL_nil phiL_at tau lentO okIds flatC flatB flatOs flatO flatPs place setAll_nil setAll_cons nodupB renObj closeIds addNew idsOf idsObj posOf lenOk_0 lenOk_1 lenOk_2 lenOk_3 lenOk_4 lenOk_8 Option.isSome_none Option.isSome_some Bool.or_true Bool.true_or beq_self_eq_true List.map List.set List.map_cons List.map_nil List.flatMap_cons List.flatMap_nil List.flatten_cons List.flatten_nil true_and and_true List.length_cons List.length_nil List.nil_append List.cons_append List.append_nil Option.map mapO ren kp kpI ent nilG Option.bind List.range List.range.loop List.getElem?_cons_zero List.getElem?_cons_succ List.getElem?_nil List.getD_cons_zero List.getD_cons_succ List.drop_zero List.drop_succ_cons List.drop_nil List.take_zero List.take_succ_cons List.all_cons List.all_nil List.isEmpty_nil List.isEmpty_cons Bool.and_true Bool.true_and Bool.not_true Bool.not_false List.contains_nil List.contains_cons Bool.or_false Bool.false_or eq_self forall_const false_implies Bool.false_eq_true Nat.le_refl List.length_map List.length_set List.length_replicate and_self implies_true Bool.and_self Bool.false_and Bool.and_false finP finI Int.cast_ofNat_Int decide_true decide_false aMget aTas aMlen aArr mkOf AV.real viewC viewA cutB aSlA ofC_map_U

abbrev oS (n : Nat) (x : AOp) : AOper := ⟨some n, x, none⟩
abbrev oN (x : AOp) : AOper := ⟨none, x, none⟩
abbrev oG (n : Nat) (x : AOp) (t : Nat) : AOper := ⟨some n, x, some (t, true)⟩
abbrev oH (n : Nat) (x : AOp) (t : Nat) : AOper := ⟨some n, x, some (t, false)⟩
attribute [go_sem] oS oN oG oH
end Go.Proofs.YtakolikdebfkeaaDoor
namespace Go.Proofs.YtakolikdebfkeaaDoor
open Go.RowKit
theorem returns_shaped {H:Type} {enc:TypeId × Value→H} {f:FuncId} {fn:Func} {a:Assume} {C:Checked} {os:Os} {s:ChangeSpec} {conds:List PathCond} {apart fresh handsOn again:Bool} {X:World→Array Value→Prop}
  (hX:∀ (w w' : World) (args:Array Value),w.heap=w'.heap→X w args→X w' args)
  (own:ownKnob C.prog.godebug=none) (started:os.Started) (noInit:C.prog.inits.idxOf? f=none) (hfn:C.prog.funcs[f]?=some fn)
  (witness:∃ (w:World) (tape:Tape) (i:Input),w.os=os∧(w.forCall tape i).Shaped C.prog∧i.vars=[]∧Input.okWide C.prog (w.forCall tape i) .any w.heap.size f i ∧
   ((s.pre enc C.prog fn conds apart (w.forCall tape i).memory i.args∧X (w.forCall tape i).memory i.args)∧sizedMet enc C.prog fn (OpenSpec.ofChange s) apart (w.forCall tape i).memory i.args)∧a.holds C.prog (lone (Frame.enter C.prog f i.args .normal) [] (w.forCall tape i)))
  (contract:∀ (W:World) (base:Nat) (args:Array Value) (ds gs:List (DataW H)) (before:List MemPlace),
   (∀ (j:Nat) t v,fn.params[j]?=some t→args[j]?=some v→Value.okWide C.prog W .any base t v) →
   DataW.Whole enc C.prog fn.params.toList s.vars apart W args.toList ds gs before →
   X W args→W.ShapedOpen C.prog →
   Calls C.prog f args W fun e W' => ∃ v,e=.returned v∧s.post enc C.prog fn apart fresh handsOn again W args v W') :
  ReturnsInHanded a C os f .any (fun w args=>(s.pre enc C.prog fn conds apart w args∧X w args)∧sizedMet enc C.prog fn (OpenSpec.ofChange s) apart w args) (s.post enc C.prog fn apart fresh handsOn again):=by
 refine returnsInHanded_of_calls own started noInit witness ?_
 intro w tape i _ hsh _ hok hpre _
 obtain ⟨_,_,_,fn',hfn',_,_,_,_,hval⟩:=hok
 obtain rfl:fn' = fn:=Option.some.inj (hfn'.symm.trans hfn)
 obtain ⟨⟨⟨ds,gs,before,hw,_⟩,hx⟩,_⟩:=hpre
 refine (contract (w.forCall tape i) w.heap.size i.args ds gs before hval (DataW.Whole.of_heap (w' := w.forCall tape i) (by rfl) hw) (hX _ _ _ (by rfl) hx) hsh).mono fun e W' ⟨v,he,hp⟩=>?_
 subst he
 exact ChangeSpec.post_blind hp
end Go.Proofs.YtakolikdebfkeaaDoor
namespace Go.Proofs.YtakolikdebfkeaaDoor
open Go.RowKit
def GeOk (w:World) (S:Nat→Prop):Nat × GE→Prop
 | (g,.cells cs)=>S g∧(∀ u∈cs,u.oneCell' = true)∧∃ t fr,w.heap[g]?=some (.cells cs.toArray t fr)
 | (g,.err t l)=>S g∧∃ b o ty fr,w.heap[g]?=some (.cells #[.iface t (.pointer (some ⟨b,o,none⟩))] ty fr)∧S b∧w.cell? ⟨b,o,none⟩=some (.string ⟨l.toArray⟩)
theorem glob1_ok {w:World} {S:Nat→Prop} {g sz:Nat} {x:AV}:∀ l:List (Nat × GE),(∀ e∈l,GeOk w S e)→glob1 g l=some (sz,x)→S g∧∃ us t fr,Cs w S rho0 x us∧us.length=sz∧w.heap[g]?=some (.cells us.toArray t fr):=by
 intro l
 induction l with
 | nil=>intro _ h; cases h
 | cons e l ih =>
  intro h hg
  obtain ⟨k,e⟩:=e
  have h0:=h _ (List.mem_cons_self ..)
  have h1:=ih (fun e he=>h e (List.mem_cons_of_mem _ he))
  cases e with
  | cells cs =>
   simp only [glob1] at hg
   split at hg
   ·rename_i e
    subst e
    simp only [Option.some.injEq,Prod.mk.injEq] at hg
    obtain ⟨rfl,rfl⟩:=hg
    obtain ⟨a1,a2,t,fr,a3⟩:=h0
    exact ⟨a1,cs,t,fr,.blob cs a2,rfl,a3⟩
   ·exact h1 hg
  | err t l =>
   simp only [glob1] at hg
   split at hg
   ·rename_i e
    subst e
    simp only [Option.some.injEq,Prod.mk.injEq] at hg
    obtain ⟨rfl,rfl⟩:=hg
    obtain ⟨a1,b,o,ty,fr,a2,a3,a4⟩:=h0
    refine ⟨a1,[.iface t (.pointer (some ⟨b,o,none⟩))],ty,fr,?_,rfl,a2⟩
    have hp:Cs w S rho0 (.ptr 1 (.str l) 0 0) [.pointer (some ⟨b,o+(0+0),none⟩)]:=.ptr 1 (.str l) 0 0 [.string ⟨l.toArray⟩] b o a3 (.str l) rfl (fun j hj=>by
     have:j=0:=by simpa using hj
     subst this
     simpa using a4)
    exact .iface t _ _ hp
   ·exact h1 hg
theorem globOk_of {w:World} {S:Nat→Prop} (h:∀ e∈globs,GeOk w S e) (hi:∀ g,globInts.contains g=true→S g∧∃ m,w.cell? ⟨g,0,none⟩=some (.int .i64 m)):GlobOk w S:=⟨fun _ _ _ hg=>glob1_ok globs h hg,hi⟩
theorem laidVars_at {P:Program} {w:World}:∀ (l:List (String × DataW Unit)) {ps:List MemPlace},DataW.LaidVars P w l ps→∀ (i:Nat) (n:String) (d:DataW Unit),l[i]?=some (n,d) →
  ∃ g t cs fuel p,P.globalNamed n=some g∧(P.globals[g]?).map (·.type)=some t∧w.var? P n=some cs∧DataW.trod (fun _=>()) P w 0 (fun _=>true) false fuel t cs.toList=some (d,p)∧(∀ x∈MemPlace.row ⟨g,0,none⟩ cs.size,x∈ps)∧(∀ x∈p,x∈ps):=by
 intro l
 induction l with
 | nil=>intro ps _ i n d h; simp at h
 | cons e l ih =>
  intro ps h i n d hi
  obtain ⟨n0,d0⟩:=e
  obtain ⟨g,t,cs,fuel,p,q,h1,h2,h3,h4,h5,rfl⟩:=h
  cases i with
  | zero =>
   simp only [List.getElem?_cons_zero,Option.some.injEq,Prod.mk.injEq] at hi
   obtain ⟨rfl,rfl⟩:=hi
   exact ⟨g,t,cs,fuel,p,h1,h2,h3,h4,fun x hx=>by simp [hx],fun x hx=>by simp [hx]⟩
  | succ i =>
   obtain ⟨g',t',cs',fuel',p',k1,k2,k3,k4,k5,k6⟩:=ih h5 i n d (by simpa using hi)
   exact ⟨g',t',cs',fuel',p',k1,k2,k3,k4,fun x hx=>by simp [k5 x hx],fun x hx=>by simp [k6 x hx]⟩
theorem var_heap {P:Program} {w:World} {n:String} {g:Nat} {cs:Array Value} (hg:P.globalNamed n=some g) (h:w.var? P n=some cs):∃ t fr,w.heap[g]?=some (.cells cs t fr):=by
 simp only [World.var?,hg,Option.bind_some] at h
 split at h
 ·rename_i cs' t fr e
  injection h with h
  subst h
  exact ⟨t,fr,e⟩
 ·cases h
theorem lt_of_heap {w:World} {b:Nat} {x:Obj} (h:w.heap[b]?=some x):b<w.heap.size:=(Array.getElem?_eq_some_iff.1 h).1
theorem ge_cells {P:Program} {w:World} {l:List (String × DataW Unit)} {n:String} {k:IntKind} {zs:List Int} {g:Nat} {t e:TypeId} (h:laidMet P l w) (i:Nat)
  (hm:l[i]?=some (n,.agg (zs.map fun z=>.lit (.int k z)))) (hg:P.globalNamed n=some g) (ht:(P.globals[g]?).map (·.type)=some t) (ha:P.underlying t=some (.array zs.length e)) (hct:P.cellsOf t=zs.length)
  (he:P.underlying e=some (.int k)) (hc:P.cellsOf e=1):GeOk w (fun b=>b<w.heap.size) (g,.cells (zs.map fun z=>.int k z)):=by
 obtain ⟨ps,hv,_,_⟩:=h
 obtain ⟨g',t',cs,fuel,p,h1,h2,h3,h4,_,_⟩:=laidVars_at l hv i n _ hm
 obtain rfl:=Option.some.inj (hg.symm.trans h1)
 obtain rfl:=Option.some.inj (ht.symm.trans h2)
 obtain ⟨ty,fr,hh⟩:=var_heap hg h3
 obtain ⟨xs,m,_,hx,hl,hn,hel⟩:=DataW.trod_array ha h4
 simp only [Prod.mk.injEq,DataW.agg.injEq] at hx
 have hcs:cs.toList=zs.map fun z=>Value.int k z:=by
  refine List.ext_getElem? fun j=>?_
  rcases Nat.lt_or_ge j zs.length with hj | hj
  ·have h5:=hel j hj
   rw [hc] at h5
   obtain ⟨x,hxj⟩:∃ x,xs[j]?=some x:=⟨xs[j]'(by omega),List.getElem?_eq_getElem (by omega)⟩
   rw [hxj] at h5
   obtain ⟨z,e1,e2,_⟩:=DataW.trod_int he h5
   have e3:=congrArg (fun l=>l[j]?) hx.1
   simp only [List.getElem?_map,hxj,Option.map_some,List.getElem?_eq_getElem hj] at e3
   rw [e2] at e3
   simp only [Option.some.injEq,DataW.lit.injEq,Lit.int.injEq,true_and] at e3
   have e4:=congrArg (fun l=>l[0]?) e1
   simp only [List.getElem?_take,List.getElem?_drop,List.getElem?_cons_zero,Nat.lt_one_iff] at e4
   simp only [Nat.mul_one,Nat.add_zero,if_true] at e4
   rw [e4,List.getElem?_map,List.getElem?_eq_getElem hj,e3]
   rfl
  ·rw [List.getElem?_eq_none (by omega),List.getElem?_eq_none (by simpa using hj)]
 refine ⟨lt_of_heap hh,fun u hu=>?_,ty,fr,by rw [hh,← hcs]⟩
 obtain ⟨z,_,rfl⟩:=List.mem_map.1 hu
 rfl
theorem ge_err_of {P:Program} {w:World} {l:List (String × DataW Unit)} {n nm:String} {text:List UInt8} {g:Nat} {ti tp te ts:TypeId} {ms:Array (String × TypeId)} {f:Field} (h:laidMet P l w) (i:Nat)
  (hm:l[i]?=some (n,.iface nm (.ptr (.agg [.lit (.string text)])))) (hg:P.globalNamed n=some g) (ht:(P.globals[g]?).map (·.type)=some ti)
  (hi:P.underlying ti=some (.interface ms)) (hrow:∀ u,P.typeName? 3 u=some nm→u=tp)
  (hp:P.underlying tp=some (.pointer te)) (he:P.underlying te=some (.struct #[f])) (hft:f.type=ts) (hfo:f.offset=0) (hs:P.underlying ts=some .string) (hc:P.cellsOf te=1) (hcs:P.cellsOf ts=1) :
  GeOk w (fun b=>b<w.heap.size) (g,.err tp text):=by
 obtain ⟨ps,hv,_,hrows⟩:=h
 obtain ⟨g',t',cs,fuel,p,h1,h2,h3,h4,h5,h6⟩:=laidVars_at l hv i n _ hm
 obtain rfl:=Option.some.inj (hg.symm.trans h1)
 obtain rfl:=Option.some.inj (ht.symm.trans h2)
 obtain ⟨ty,fr,hh⟩:=var_heap hg h3
 obtain ⟨l0⟩:=cs
 have ok0:∀ u v,l0=[.iface u v]→Value.okWide P w .any 0 u v:=fun u v e=>by
  subst e
  exact (hrows g 0 (h5 _ (by simp [MemPlace.row]))).2 u v (by simpa using World.var?_cell hg h3 0)
 obtain ⟨a,s,rfl,hc0,hs0,_,rfl⟩:=errorString_of_trod hi hrow hp he hft hfo hs hc hcs h4 ok0
 obtain ⟨b,o,sp⟩:=a
 obtain ⟨⟨c,t0,hb0⟩,_⟩:=hrows b o (h6 _ (by simp [MemPlace.row]))
 have hsp:sp=none:=by
  simp only [World.cell?,hb0] at hc0
  cases sp with
  | none=>rfl
  | some _=>simp at hc0
 subst hsp
 refine ⟨lt_of_heap hh,b,o,ty,fr,hh,lt_of_heap hb0,?_⟩
 rw [hc0]
 obtain ⟨⟨s⟩⟩:=s
 simp only at hs0
 subst hs0
 rfl
theorem star_err : "*" ++ "errors.errorString" = "*errors.errorString" := by decide
theorem row_err (u : TypeId) (h : Tryd.prog.typeName? 3 u = some "*errors.errorString") : u = 189 :=
 typeName_ptr_named (nm := "errors.errorString") (by rw [star_err]; kernel_rfl) (by kernel_rfl) (by decide) u (by rw [star_err]; exact h)
theorem ge_err {w : World} {l : List (String × DataW Unit)} {n : String} {text : List UInt8} {g : Nat} (h : laidMet Tryd.prog l w) (i : Nat)
  (hm : l[i]? = some (n, .iface "*errors.errorString" (.ptr (.agg [.lit (.string text)])))) (hg : Tryd.prog.globalNamed n = some g) (ht : (Tryd.prog.globals[g]?).map (·.type) = some 91) : GeOk w (fun b => b < w.heap.size) (g, .err 189 text) :=
 ge_err_of h i hm hg ht Tryd.underlying91 row_err Tryd.underlying189 Tryd.underlying191 rfl rfl Tryd.underlying9 (by kernel_rfl) (by kernel_rfl)
theorem glob_of_laid {W : World} (h0 : laidMetH Tryd.prog Rows.objectLooseRow.laid W) (hsh : W.ShapedOpen Tryd.prog) : GlobOk W (fun b => b < W.heap.size) := by
 rw [MakeChecks.laidMetH_plain _ _ _ (by kernel_rfl)] at h0
 have h : laidMet Tryd.prog Rows.objectLooseRow.laid W := h0
 refine globOk_of (fun e he => ?_) (fun g hx => by
  obtain rfl : g = 0 := by simpa [globInts] using hx
  obtain ⟨m, hm⟩ := cell_of_shapedOpen_int (zero := #[.int .i64 0]) (t := 3) (g := 0) hsh (of_decide_eq_true (by kernel_rfl)) (by kernel_rfl) rfl (by kernel_rfl) (by kernel_rfl) Tryd.underlying3
  exact ⟨World.block_lt_of_cell? _ _ hm, m, hm⟩)
 simp only [globs, List.mem_cons, List.not_mem_nil, or_false] at he
 rcases he with rfl | rfl | rfl
 ·exact ge_cells (n := "internal/strconv.uint64pow10") (k := .u64) (t := 193) (e := 39) (zs := [1, 10, 100, 1000, 10000, 100000, 1000000, 10000000, 100000000, 1000000000, 10000000000, 100000000000, 1000000000000, 10000000000000, 100000000000000, 1000000000000000, 10000000000000000, 100000000000000000, 1000000000000000000, 10000000000000000000]) h 2 rfl (by kernel_rfl) (by kernel_rfl) (by kernel_rfl) (by kernel_rfl) (by kernel_rfl) (by kernel_rfl)
 ·exact ge_err (n := "strconv.ErrRange") (text := [118, 97, 108, 117, 101, 32, 111, 117, 116, 32, 111, 102, 32, 114, 97, 110, 103, 101]) h 3 rfl (by kernel_rfl) (by kernel_rfl)
 ·exact ge_err (n := "strconv.ErrSyntax") (text := [105, 110, 118, 97, 108, 105, 100, 32, 115, 121, 110, 116, 97, 120]) h 4 rfl (by kernel_rfl) (by kernel_rfl)
end Go.Proofs.YtakolikdebfkeaaDoor
namespace Go.Proofs.YtakolikdebfkeaaDoor
def cntL (ls:List Nat) (l:Nat):Nat:=ls.count l
def fstL (ls:List Nat):Nat→Nat
 | 0=>0
 | l+1=>2 * (fstL ls l+if l=0 then 0 else cntL ls l)
def krL (ls:List Nat) (l:Nat):Nat:=fstL ls l+if l=0 then 0 else cntL ls l
theorem fstL_succ (ls:List Nat) (l:Nat):fstL ls (l+1)=2 * krL ls l:=rfl
theorem kr_mono (ls:List Nat) (l k:Nat):krL ls l * 2 ^ k≤krL ls (l+k):=by
 induction k with
 | zero=>simp
 | succ k ih =>
  have:krL ls (l+k+1)=fstL ls (l+k+1)+cntL ls (l+k+1):=by unfold krL; simp
  have h2:=fstL_succ ls (l+k)
  rw [Nat.pow_succ,← Nat.mul_assoc,show l+(k+1)=l+k+1 by omega,this,h2]
  omega
def roomL (ls:List Nat):Prop:=krL ls 15≤32768
theorem kr_le {ls:List Nat} (h:roomL ls) {l:Nat} (hl:l≤15):krL ls l≤2 ^ l:=by
 have h1:=kr_mono ls l (15 - l)
 rw [show l+(15 - l)=15 by omega] at h1
 have h2:krL ls l * 2 ^ (15 - l)≤2 ^ l * 2 ^ (15 - l):=by
  rw [← Nat.pow_add,show l+(15 - l)=15 by omega]; exact Nat.le_trans h1 h
 exact Nat.le_of_mul_le_mul_right h2 (Nat.pow_pos (by omega))
def nxtL (ls:List Nat) (n i:Nat):Nat:=fstL ls n+(ls.take i).count n
theorem count_take_le (ls:List Nat) (n:Nat) {i:Nat} (hi:i<ls.length) (h:ls[i]=n):(ls.take i).count n+1≤ls.count n:=by
 have h1:(ls.take (i+1)).count n=(ls.take i).count n+1:=by
  rw [List.take_add_one,List.getElem?_eq_getElem hi,Option.toList_some,List.count_append,h]; simp
 rw [← h1]
 exact (List.take_sublist _ _).count_le _
theorem nxt_lt {ls:List Nat} (hr:roomL ls) {n i:Nat} (hn:0<n) (hn2:n≤15) (hi:i<ls.length) (h:ls[i]=n):nxtL ls n i<2 ^ n:=by
 have h1:=kr_le hr hn2
 have h2:=count_take_le ls n hi h
 unfold krL at h1
 rw [if_neg (by omega)] at h1
 unfold nxtL
 unfold cntL at h1
 omega
end Go.Proofs.YtakolikdebfkeaaDoor
namespace Go.Proofs.YtakolikdebfkeaaDoor
def idxU (ls:List Nat) (l k:Nat):List Nat:=(List.range k).filter fun i=>decide (ls.getD i 0=l)
def idxs (ls:List Nat) (l:Nat):List Nat:=idxU ls l ls.length
theorem idxU_succ (ls:List Nat) (l k:Nat):idxU ls l (k+1)=idxU ls l k ++ if ls.getD k 0=l then [k] else []:=by
 unfold idxU
 rw [List.range_succ,List.filter_append]
 congr 1
 by_cases h:ls.getD k 0=l
 ·rw [if_pos h,List.filter_cons_of_pos (by rw [h]; exact decide_eq_true rfl),List.filter_nil]
 ·rw [if_neg h,List.filter_cons_of_neg (by rw [decide_eq_false h]; exact Bool.false_ne_true),List.filter_nil]
theorem take_count (ls:List Nat) (l:Nat) {k:Nat} (hk:k<ls.length):(ls.take (k+1)).count l=(ls.take k).count l+if ls.getD k 0=l then 1 else 0:=by
 have e:ls.getD k 0=ls[k]:=by simp [List.getD_eq_getElem?_getD,List.getElem?_eq_getElem hk]
 rw [List.take_add_one,List.getElem?_eq_getElem hk,Option.toList_some,List.count_append,e]
 by_cases h:ls[k]=l
 ·rw [if_pos h,h]; simp
 ·have e2:[ls[k]].count l=0:=List.count_eq_zero.2 (by simpa using Ne.symm h)
  rw [if_neg h,e2]
theorem idxU_length (ls:List Nat) (l:Nat):∀ k,k≤ls.length→(idxU ls l k).length=(ls.take k).count l
 | 0,_=>by simp [idxU]
 | k+1,hk=>by
  rw [idxU_succ,List.length_append,idxU_length ls l k (by omega),take_count ls l (by omega)]
  by_cases h:ls.getD k 0=l
  ·rw [if_pos h,if_pos h]; rfl
  ·rw [if_neg h,if_neg h]; rfl
theorem idxs_length (ls:List Nat) (l:Nat):(idxs ls l).length=cntL ls l:=by
 unfold idxs cntL
 rw [idxU_length ls l _ (Nat.le_refl _),List.take_length]
theorem idxU_get (ls:List Nat) (l:Nat):∀ k,k≤ls.length→∀ r,r<(ls.take k).count l→∃ i,i<k∧ls.getD i 0=l∧(ls.take i).count l=r∧(idxU ls l k)[r]?=some i
 | 0,_,r,hr=>by simp at hr
 | k+1,hk,r,hr=>by
  have hl:=idxU_length ls l k (by omega)
  rw [take_count ls l (by omega)] at hr
  rw [idxU_succ]
  by_cases h:r<(ls.take k).count l
  ·obtain ⟨i,h1,h2,h3,h4⟩:=idxU_get ls l k (by omega) r h
   exact ⟨i,by omega,h2,h3,by rw [List.getElem?_append_left (by omega)]; exact h4⟩
  ·by_cases hk2:ls.getD k 0=l
   ·rw [if_pos hk2] at hr ⊢
    have:r=(ls.take k).count l:=by omega
    exact ⟨k,by omega,hk2,this.symm,by rw [List.getElem?_append_right (by omega),hl,this,Nat.sub_self]; rfl⟩
   ·rw [if_neg hk2] at hr; omega
theorem sign_at {ls:List Nat} {l n:Nat} (h1:fstL ls l≤n) (h2:n<fstL ls l+cntL ls l) :
  ∃ i,i<ls.length∧ls.getD i 0=l∧nxtL ls l i=n∧(idxs ls l)[n - fstL ls l]?=some i:=by
 obtain ⟨i,a,b,c,d⟩:=idxU_get ls l ls.length (Nat.le_refl _) (n - fstL ls l) (by rw [List.take_length]; unfold cntL at h2; omega)
 exact ⟨i,a,b,by unfold nxtL; omega,d⟩
theorem nxt_bound {ls:List Nat} {l i:Nat} (hi:i<ls.length) (h:ls.getD i 0=l):nxtL ls l i<fstL ls l+cntL ls l:=by
 have e:ls.getD i 0=ls[i]:=by simp [List.getD_eq_getElem?_getD,List.getElem?_eq_getElem hi]
 have:=count_take_le ls l hi (by rw [← e]; exact h)
 unfold nxtL cntL; omega
theorem nxt_inj {ls:List Nat} {l i j:Nat} (hi:i<ls.length) (hj:j<ls.length) (h1:ls.getD i 0=l) (h2:ls.getD j 0=l) (h:nxtL ls l i=nxtL ls l j):i=j:=by
 have key:∀ i j:Nat,i<j→j<ls.length→ls.getD i 0=l→(ls.take i).count l<(ls.take j).count l:=fun i j hij hj hi=>by
  have h1:=take_count ls l (k:=i) (by omega)
  rw [if_pos hi] at h1
  have h2:(ls.take (i+1)).count l≤(ls.take j).count l:=by
   have:ls.take (i+1)=(ls.take j).take (i+1):=by rw [List.take_take,Nat.min_eq_left (by omega)]
   rw [this]
   exact (List.take_sublist _ _).count_le _
  omega
 unfold nxtL at h
 rcases Nat.lt_trichotomy i j with h3 | h3 | h3
 ·have:=key i j h3 hj h1; omega
 ·exact h3
 ·have:=key j i h3 hi h2; omega
end Go.Proofs.YtakolikdebfkeaaDoor
namespace Go.Proofs.YtakolikdebfkeaaDoor
abbrev RdE (α:Type):=Except Nat (α × Nat)
def byteB (c:UInt8):List Bool:=(List.range 8).map fun i=>c.toNat.testBit i
def bitsOf (b:List UInt8):List Bool:=b.flatMap byteB
theorem byteB_length (c:UInt8):(byteB c).length=8:=by simp [byteB]
theorem bitsOf_length:∀ b:List UInt8,(bitsOf b).length=8 * b.length
 | []=>rfl
 | c :: b=>by
  have e:bitsOf (c :: b)=byteB c ++ bitsOf b:=rfl
  rw [e,List.length_append,byteB_length,bitsOf_length b,List.length_cons]; omega
theorem bitsOf_get:∀ (b:List UInt8) (at' : Nat) (h:at' < 8 * b.length),(bitsOf b)[at']?=some ((b.getD (at' / 8) 0).toNat.testBit (at' % 8))
 | [],at',h=>by simp at h
 | c :: b,at',h=>by
  have e:bitsOf (c :: b)=byteB c ++ bitsOf b:=rfl
  rw [e]
  by_cases h8:at' < 8
  ·rw [List.getElem?_append_left (by rw [byteB_length]; exact h8),Nat.div_eq_of_lt h8,Nat.mod_eq_of_lt h8]
   simp [byteB,h8]
  ·rw [List.getElem?_append_right (by rw [byteB_length]; omega),byteB_length,bitsOf_get b (at' - 8) (by rw [List.length_cons] at h; omega)]
   have h1:at' / 8=(at' - 8) / 8+1:=by omega
   have h2:at' % 8=(at' - 8) % 8:=by omega
   rw [h1,h2,List.getD_cons_succ]
def bitE (B:List Bool) (p:Nat):RdE Nat:=match B[p]? with
 | some b=>.ok (b.toNat,p+1)
 | none=>.error 3
def numB (B:List Bool) (p:Nat):Nat→Nat
 | 0=>0
 | n+1=>numB B p n+(B.getD (p+n) false).toNat * 2 ^ n
def numE (B:List Bool) (p n:Nat):RdE Nat:=if p+n≤B.length then .ok (numB B p n,p+n) else .error 3
theorem numB_lt (B:List Bool) (p:Nat):∀ n,numB B p n<2 ^ n
 | 0=>by simp [numB]
 | n+1=>by
  have:=numB_lt B p n
  rw [numB,Nat.pow_succ]
  cases B.getD (p+n) false <;> simp <;> omega
def totL (ls:List Nat):Nat→Nat
 | 0=>0
 | l+1=>totL ls l+cntL ls (l+1)
theorem tot_mono (ls:List Nat) (l k:Nat):totL ls l≤totL ls (l+k):=by
 induction k with
 | zero=>exact Nat.le_refl _
 | succ k ih=>exact Nat.le_trans ih (Nat.le_add_right _ _)
def signGo (ls:List Nat) (B:List Bool):Nat→Nat→Nat→Nat→RdE Nat
 | 0,_,_,_=>.error 4
 | k+1,l,n,p=>match bitE B p with
  | .error e=>.error e
  | .ok (b,p') =>
   if 2 * n+b<fstL ls (l+1)+cntL ls (l+1) then .ok ((idxs ls (l+1)).getD (2 * n+b - fstL ls (l+1)) 0,p')
   else if totL ls (l+1)=totL ls 15 then .error 4
   else signGo ls B k (l+1) (2 * n+b) p'
def signE (ls:List Nat) (B:List Bool) (p:Nat):RdE Nat:=signGo ls B 15 0 0 p
def bitsM (n v:Nat):List Bool:=(List.range n).map fun j=>(v / 2 ^ (n - 1 - j)).testBit 0
theorem bitsM_length (n v:Nat):(bitsM n v).length=n:=by simp [bitsM]
theorem bitsM_get {n v j:Nat} (h:j<n):(bitsM n v)[j]?=some ((v / 2 ^ (n - 1 - j)).testBit 0):=by
 simp [bitsM,h]
def standB (B:List Bool) (p:Nat) (x:List Bool):Prop:=∀ j,j<x.length→B[p+j]?=x[j]?
theorem standB_app {B:List Bool} {p:Nat} {x y:List Bool} (h:standB B p (x ++ y)):standB B p x∧standB B (p+x.length) y:=by
 constructor
 ·intro j hj
  rw [h j (by rw [List.length_append]; omega),List.getElem?_append_left hj]
 ·intro j hj
  have:=h (x.length+j) (by rw [List.length_append]; omega)
  rw [List.getElem?_append_right (by omega),Nat.add_sub_cancel_left,← Nat.add_assoc] at this
  exact this
theorem standB_self (a x y:List Bool):standB (a ++ x ++ y) a.length x:=fun j hj=>by
 rw [List.append_assoc,List.getElem?_append_right (by omega),Nat.add_sub_cancel_left,List.getElem?_append_left hj]
theorem toNat_testBit (v:Nat):(v.testBit 0).toNat=v % 2:=by
 rw [Nat.testBit_zero]
 rcases Nat.mod_two_eq_zero_or_one v with h | h <;> rw [h] <;> rfl
theorem signGo_code {ls:List Nat} (hr:krL ls 15=32768) {B:List Bool} {p i L:Nat} (hi:i<ls.length) (hL:ls.getD i 0=L) (h0:0<L) (h15:L≤15) (hs:standB B p (bitsM L (nxtL ls L i))) :
  ∀ d l,l+d=L→0<d→signGo ls B (15 - l) l (nxtL ls L i / 2 ^ d) (p+l)=.ok (i,p+L)
 | d+1,l,hd,_=>by
  have hlt:=nxt_bound hi hL
  have hf:fstL ls L≤nxtL ls L i:=Nat.le_add_right _ _
  generalize hv:nxtL ls L i=v at *
  have hb:bitE B (p+l)=.ok ((v / 2 ^ d) % 2,p+l+1):=by
   unfold bitE
   rw [hs l (by rw [bitsM_length]; omega),bitsM_get (by omega),show L - 1 - l=d by omega]
   simp only [toNat_testBit]
  have hn:2 * (v / 2 ^ (d+1))+(v / 2 ^ d) % 2=v / 2 ^ d:=by
   rw [Nat.pow_succ,← Nat.div_div_eq_div_mul]; omega
  rw [show 15 - l=(15 - (l+1))+1 by omega,signGo,hb]
  simp only
  rw [hn]
  cases d with
  | zero =>
   obtain rfl:l+1=L:=by omega
   rw [Nat.pow_zero,Nat.div_one,if_pos hlt]
   obtain ⟨j,a,b,c,e⟩:=sign_at hf hlt
   have:j=i:=nxt_inj a hi b hL (by rw [c,hv])
   rw [List.getD_eq_getElem?_getD,e,this]; rfl
  | succ d =>
   have hk:krL ls (l+1)≤v / 2 ^ (d+1):=by
    rw [Nat.le_div_iff_mul_le (Nat.pow_pos (by omega))]
    have h1:=kr_mono ls (l+1) d
    have h2:fstL ls L=2 * krL ls (l+1+d):=by
     rw [← fstL_succ]; congr 1; omega
    rw [Nat.pow_succ,← Nat.mul_assoc]
    omega
   have hk2:krL ls (l+1)=fstL ls (l+1)+cntL ls (l+1):=by unfold krL; rw [if_neg (by omega)]
   rw [if_neg (by omega)]
   have ht:totL ls (l+1)≠totL ls 15:=by
    have h1:=tot_mono ls (l+1) d
    have h2:=tot_mono ls L (15 - L)
    rw [show L+(15 - L)=15 by omega] at h2
    have h3:totL ls L=totL ls (l+1+d)+cntL ls L:=by
     rw [show L=l+1+d+1 by omega]; rfl
    omega
   rw [if_neg ht]
   have ih:=signGo_code hr hi hL h0 h15 (by rw [hv]; exact hs) (d+1) (l+1) (by omega) (by omega)
   rw [hv] at ih
   rw [show p+l+1=p+(l+1) by omega]
   exact ih
theorem sign_code {ls:List Nat} (hr:krL ls 15=32768) {B:List Bool} {p i L:Nat} (hi:i<ls.length) (hL:ls.getD i 0=L) (h0:0<L) (h15:L≤15) (hs:standB B p (bitsM L (nxtL ls L i))):signE ls B p=.ok (i,p+L):=by
 have h:=signGo_code hr hi hL h0 h15 hs L 0 (by omega) h0
 have hlt:nxtL ls L i<2 ^ L:=by
  have e:ls.getD i 0=ls[i]:=by simp [List.getD_eq_getElem?_getD,List.getElem?_eq_getElem hi]
  exact nxt_lt (by unfold roomL; omega) h0 h15 hi (by rw [← e]; exact hL)
 rw [Nat.div_eq_of_lt hlt] at h
 exact h
end Go.Proofs.YtakolikdebfkeaaDoor
namespace Go.Proofs.YtakolikdebfkeaaDoor
def bitsN (n v:Nat):List Bool:=(List.range n).map fun j=>v.testBit j
theorem bitsN_length (n v:Nat):(bitsN n v).length=n:=by simp [bitsN]
theorem bitsN_get {n v j:Nat} (h:j<n):(bitsN n v)[j]?=some (v.testBit j):=by simp [bitsN,h]
theorem standB_len {B:List Bool} {p:Nat} {x:List Bool} (h:standB B p x) (h0:0<x.length):p+x.length≤B.length:=by
 have h1:=h (x.length - 1) (by omega)
 rw [List.getElem?_eq_getElem (l:=x) (by omega)] at h1
 have:=(List.getElem?_eq_some_iff.1 h1).1
 omega
theorem numB_stand {B:List Bool} {p v:Nat}:∀ n,standB B p (bitsN n v)→numB B p n=v % 2 ^ n
 | 0,_=>by rw [Nat.pow_zero,Nat.mod_one]; rfl
 | n+1,h=>by
  have h1:standB B p (bitsN n v):=fun j hj=>by
   rw [bitsN_length] at hj
   rw [h j (by rw [bitsN_length]; omega),bitsN_get (by omega),bitsN_get hj]
  have h2:=h n (by rw [bitsN_length]; omega)
  rw [bitsN_get (by omega)] at h2
  have h3:B.getD (p+n) false=v.testBit n:=by rw [List.getD_eq_getElem?_getD,h2]; rfl
  have h4:(v.testBit n).toNat=v / 2 ^ n % 2:=by
   rw [Nat.testBit_eq_decide_div_mod_eq]
   rcases Nat.mod_two_eq_zero_or_one (v / 2 ^ n) with h | h <;> rw [h] <;> rfl
  rw [numB,numB_stand n h1,h3,h4,Nat.pow_succ,Nat.mod_mul]
  rw [Nat.mul_comm (2 ^ n)]
theorem num_read {B:List Bool} {p n v:Nat} (hp:p≤B.length) (hv:v<2 ^ n) (h:standB B p (bitsN n v)):numE B p n=.ok (v,p+n):=by
 unfold numE
 have hl:p+n≤B.length:=by
  cases n with
  | zero=>exact hp
  | succ n=>have:=standB_len h (by rw [bitsN_length]; omega); rwa [bitsN_length] at this
 rw [if_pos hl,numB_stand n h,Nat.mod_eq_of_lt hv]
def lenE (B:List Bool) (s p:Nat):RdE Nat :=
 if s - 257<8 then .ok (s - 257+3,p) else if s - 257=28 then .ok (258,p) else if 28<s - 257 then .error 4 else
 match numE B p ((s - 257) / 4 - 1) with
 | .error e=>.error e
 | .ok (x,p')=>.ok (3+(4+(s - 257) % 4) * 2 ^ ((s - 257) / 4 - 1)+x,p')
def distE (B:List Bool) (s p:Nat):RdE Nat :=
 if s<4 then .ok (s+1,p) else if 29<s then .error 4 else
 match numE B p (s / 2 - 1) with
 | .error e=>.error e
 | .ok (x,p')=>.ok (1+(2+s % 2) * 2 ^ (s / 2 - 1)+x,p')
def moreN (lim:Nat):Nat→Nat→Nat
 | 0,_=>0
 | f+1,k=>if k<lim then 0 else moreN lim f (k / 2)+1
theorem more_ok (lim:Nat) (hl:0<lim):∀ f k,k<lim * 2 ^ f→k / 2 ^ moreN lim f k<lim∧moreN lim f k≤f∧(lim≤k→lim≤2 * (k / 2 ^ moreN lim f k)+1)
 | 0,k,h=>by
  rw [Nat.pow_zero,Nat.mul_one] at h
  simp only [moreN,Nat.pow_zero,Nat.div_one]
  omega
 | f+1,k,h=>by
  unfold moreN
  by_cases hk:k<lim
  ·rw [if_pos hk,Nat.pow_zero,Nat.div_one]; omega
  ·rw [if_neg hk]
   have hk2:k / 2<lim * 2 ^ f:=by rw [Nat.pow_succ,← Nat.mul_assoc] at h; omega
   obtain ⟨a,b,c⟩:=more_ok lim hl f (k / 2) hk2
   have e:k / 2 ^ (moreN lim f (k / 2)+1)=k / 2 / 2 ^ moreN lim f (k / 2):=by rw [Nat.pow_succ,Nat.mul_comm,Nat.div_div_eq_div_mul]
   rw [e]
   refine ⟨a,by omega,fun _=>?_⟩
   by_cases h2:lim≤k / 2
   ·exact c h2
   ·have h0:moreN lim f (k / 2)=0:=by
     cases f with
     | zero=>rfl
     | succ f=>unfold moreN; rw [if_pos (by omega)]
    rw [h0,Nat.pow_zero,Nat.div_one]; omega
def lenS (n:Nat):Nat × Nat × Nat :=
 if n=258 then (285,0,0) else
 if n - 3<8 then (257+(n - 3),0,0) else
 (257+4 * (moreN 8 8 (n - 3)+1)+(n - 3) / 2 ^ moreN 8 8 (n - 3) % 4,moreN 8 8 (n - 3),(n - 3) % 2 ^ moreN 8 8 (n - 3))
def distS (n:Nat):Nat × Nat × Nat :=
 if n - 1<4 then (n - 1,0,0) else
 (2 * (moreN 4 15 (n - 1)+1)+(n - 1) / 2 ^ moreN 4 15 (n - 1) % 2,moreN 4 15 (n - 1),(n - 1) % 2 ^ moreN 4 15 (n - 1))
theorem len_read {B:List Bool} {p n:Nat} (hp:p≤B.length) (h3:3≤n) (h258:n≤258) (h:standB B p (bitsN (lenS n).2.1 (lenS n).2.2)):lenE B (lenS n).1 p=.ok (n,p+(lenS n).2.1)∧257≤(lenS n).1∧(lenS n).1≤285:=by
 unfold lenS at h ⊢
 by_cases h1:n=258
 ·rw [if_pos h1]
  refine ⟨?_,by show 257≤285; omega,by show 285≤285; omega⟩
  show lenE B 285 p=_
  unfold lenE
  rw [if_neg (by omega),if_pos (by omega),h1]; rfl
 ·rw [if_neg h1] at h ⊢
  by_cases h2:n - 3<8
  ·rw [if_pos h2]
   refine ⟨?_,by show 257≤257+(n - 3); omega,by show 257+(n - 3)≤285; omega⟩
   unfold lenE
   simp only
   rw [if_pos (by omega),show 257+(n - 3) - 257+3=n by omega,Nat.add_zero]
  ·rw [if_neg h2] at h ⊢
   obtain ⟨a,b,c⟩:=more_ok 8 (by omega) 8 (n - 3) (by omega)
   have hm:moreN 8 8 (n - 3)≤5:=by
    rcases Nat.lt_or_ge 5 (moreN 8 8 (n - 3)) with h6 | h6
    ·have h7:2 ^ 6≤2 ^ moreN 8 8 (n - 3):=Nat.pow_le_pow_right (by omega) h6
     have h8:=c (by omega)
     have h9:(n - 3) / 2 ^ moreN 8 8 (n - 3)≤(n - 3) / 2 ^ 6:=Nat.div_le_div_left h7 (by omega)
     omega
    ·exact h6
   have h0:1≤moreN 8 8 (n - 3):=by
    rcases Nat.eq_zero_or_pos (moreN 8 8 (n - 3)) with h6 | h6
    ·rw [h6,Nat.pow_zero,Nat.div_one] at a; omega
    ·exact h6
   have hd:=Nat.div_add_mod (n - 3) (2 ^ moreN 8 8 (n - 3))
   have hlt:=Nat.mod_lt (n - 3) (Nat.pow_pos (n:=moreN 8 8 (n - 3)) (by omega:0<2))
   have hc:=c (by omega)
   generalize hM:moreN 8 8 (n - 3)=M at *
   generalize hQ:(n - 3) / 2 ^ M=q at *
   generalize hR:(n - 3) % 2 ^ M=r at *
   simp only at h ⊢
   refine ⟨?_,by omega,by omega⟩
   have e1:257+4 * (M+1)+q % 4 - 257=4 * (M+1)+q % 4:=by omega
   have e2:(4 * (M+1)+q % 4) / 4 - 1=M:=by omega
   have e3:(4 * (M+1)+q % 4) % 4=q % 4:=by omega
   unfold lenE
   rw [e1,if_neg (by omega),if_neg (by omega),if_neg (by omega),e2,num_read hp hlt h,e3]
   simp only
   have e4:4+q % 4=q:=by omega
   have e5:3+q * 2 ^ M+r=n:=by rw [Nat.mul_comm q]; omega
   rw [e4,e5]
theorem dist_read {B:List Bool} {p n:Nat} (hp:p≤B.length) (h1:1≤n) (h2:n≤32768) (h:standB B p (bitsN (distS n).2.1 (distS n).2.2)):distE B (distS n).1 p=.ok (n,p+(distS n).2.1)∧(distS n).1≤29:=by
 unfold distS at h ⊢
 by_cases h4:n - 1<4
 ·rw [if_pos h4]
  refine ⟨?_,by show n - 1≤29; omega⟩
  unfold distE
  simp only
  rw [if_pos h4,show n - 1+1=n by omega,Nat.add_zero]
 ·rw [if_neg h4] at h ⊢
  obtain ⟨a,b,c⟩:=more_ok 4 (by omega) 15 (n - 1) (by omega)
  have hm:moreN 4 15 (n - 1)≤13:=by
   rcases Nat.lt_or_ge 13 (moreN 4 15 (n - 1)) with h6 | h6
   ·have h7:2 ^ 14≤2 ^ moreN 4 15 (n - 1):=Nat.pow_le_pow_right (by omega) h6
    have h8:=c (by omega)
    have h9:(n - 1) / 2 ^ moreN 4 15 (n - 1)≤(n - 1) / 2 ^ 14:=Nat.div_le_div_left h7 (by omega)
    omega
   ·exact h6
  have h0:1≤moreN 4 15 (n - 1):=by
   rcases Nat.eq_zero_or_pos (moreN 4 15 (n - 1)) with h6 | h6
   ·rw [h6,Nat.pow_zero,Nat.div_one] at a; omega
   ·exact h6
  have hp2:0<2 ^ moreN 4 15 (n - 1):=Nat.pow_pos (by omega)
  have hd:=Nat.div_add_mod (n - 1) (2 ^ moreN 4 15 (n - 1))
  have hlt:=Nat.mod_lt (n - 1) (Nat.pow_pos (n:=moreN 4 15 (n - 1)) (by omega:0<2))
  have hc:=c (by omega)
  generalize hM:moreN 4 15 (n - 1)=M at *
  generalize hQ:(n - 1) / 2 ^ M=q at *
  generalize hR:(n - 1) % 2 ^ M=r at *
  simp only at h ⊢
  refine ⟨?_,by omega⟩
  have e2:(2 * (M+1)+q % 2) / 2 - 1=M:=by omega
  have e3:(2 * (M+1)+q % 2) % 2=q % 2:=by omega
  unfold distE
  rw [if_neg (by omega),if_neg (by omega),e2,num_read hp hlt h,e3]
  simp only
  have e4:2+q % 2=q:=by omega
  have e5:1+q * 2 ^ M+r=n:=by rw [Nat.mul_comm q]; omega
  rw [e4,e5]
end Go.Proofs.YtakolikdebfkeaaDoor
namespace Go.Proofs.YtakolikdebfkeaaDoor
def putE (most:Nat) (out:List UInt8) (c:UInt8):Except Nat (List UInt8):=if most≤out.length then .error 2 else .ok (out ++ [c])
def copyE (most back:Nat):Nat→List UInt8→Except Nat (List UInt8)
 | 0,out=>.ok out
 | n+1,out=>match putE most out (out.getD (out.length - back) 0) with
  | .error e=>.error e
  | .ok o=>copyE most back n o
def signK (ls ds:List Nat) (B:List Bool) (most:Nat) (K:Nat→List UInt8→RdE (List UInt8)) (p:Nat) (out:List UInt8):RdE (List UInt8):=match signE ls B p with
 | .error e=>.error e
 | .ok (s,p1) =>
  if s<256 then match putE most out (UInt8.ofNat s) with
   | .error e=>.error e
   | .ok o=>K p1 o
  else if s=256 then .ok (out,p1)
  else match lenE B s p1 with
   | .error e=>.error e
   | .ok (n,p2) =>
    if totL ds 15=0 then .error 4 else match signE ds B p2 with
    | .error e=>.error e
    | .ok (d,p3)=>match distE B d p3 with
     | .error e=>.error e
     | .ok (back,p4) =>
      if out.length<back then .error 4 else match copyE most back n out with
      | .error e=>.error e
      | .ok o=>K p4 o
def signsE (ls ds:List Nat) (B:List Bool) (most:Nat):Nat→Nat→List UInt8→RdE (List UInt8)
 | 0=>fun _ _=>.error 0
 | k+1=>signK ls ds B most (signsE ls ds B most k)
theorem signsE_succ (ls ds:List Nat) (B:List Bool) (most k p:Nat) (out:List UInt8):signsE ls ds B most (k+1) p out=signK ls ds B most (signsE ls ds B most k) p out:=rfl
inductive Tok where
 | lit (c:UInt8)
 | cpy (n back:Nat)
def copyL (back:Nat):Nat→List UInt8→List UInt8
 | 0,out=>out
 | n+1,out=>copyL back n (out ++ [out.getD (out.length - back) 0])
theorem copyL_len (back:Nat):∀ n out,(copyL back n out).length=out.length+n
 | 0,_=>rfl
 | n+1,out=>by rw [copyL,copyL_len back n,List.length_append]; simp; omega
def runTk:List Tok→List UInt8→List UInt8
 | [],out=>out
 | .lit c :: r,out=>runTk r (out ++ [c])
 | .cpy n back :: r,out=>runTk r (copyL back n out)
theorem runTk_len:∀ (r:List Tok) (out:List UInt8),out.length≤(runTk r out).length
 | [],_=>Nat.le_refl _
 | .lit c :: r,out=>by have:=runTk_len r (out ++ [c]); rw [List.length_append] at this; show out.length≤(runTk r (out ++ [c])).length; omega
 | .cpy n back :: r,out=>by have:=runTk_len r (copyL back n out); rw [copyL_len] at this; show out.length≤(runTk r (copyL back n out)).length; omega
def okT:List Tok→List UInt8→Prop
 | [],_=>True
 | .lit c :: r,out=>okT r (out ++ [c])
 | .cpy n back :: r,out=>3≤n∧n≤258∧1≤back∧back≤32768∧back≤out.length∧okT r (copyL back n out)
theorem copyE_ok {most back:Nat}:∀ {n:Nat} {out:List UInt8},out.length+n≤most→copyE most back n out=.ok (copyL back n out)
 | 0,_,_=>rfl
 | n+1,out,h=>by
  unfold copyE putE
  rw [if_neg (by omega)]
  simp only
  rw [copyE_ok (by rw [List.length_append]; simp; omega)]; rfl
def fixL:List Nat:=List.replicate 144 8 ++ (List.replicate 112 9 ++ (List.replicate 24 7 ++ List.replicate 8 8))
def fixD:List Nat:=List.replicate 32 5
def fixC (k:Nat):Nat:=if k<144 then 48+k else if k<256 then 400+k - 144 else if k<280 then k - 256 else 192+k - 280
def fixN (k:Nat):Nat:=if k<144 then 8 else if k<256 then 9 else if k<280 then 7 else 8
theorem fix_code:∀ k,k<288→fixL.getD k 0=fixN k∧nxtL fixL (fixN k) k=fixC k:=by decide +kernel
theorem fix_room:krL fixL 15=32768:=by decide +kernel
theorem fixD_code:∀ k,k<32→fixD.getD k 0=5∧nxtL fixD 5 k=k:=by decide +kernel
theorem fixD_room:krL fixD 15=32768:=by decide +kernel
theorem fixD_some:totL fixD 15=32:=by decide +kernel
theorem fix_len:fixL.length=288:=by decide +kernel
theorem fixD_len:fixD.length=32:=by decide +kernel
def signB (k:Nat):List Bool:=bitsM (fixN k) (fixC k)
theorem fixN_ok (k:Nat):0<fixN k∧fixN k≤9:=by unfold fixN; (repeat' split) <;> omega
theorem fix_read {B:List Bool} {p k:Nat} (hk:k<288) (h:standB B p (signB k)):signE fixL B p=.ok (k,p+(signB k).length):=by
 obtain ⟨a,b⟩:=fix_code k hk
 obtain ⟨c,d⟩:=fixN_ok k
 unfold signB at h ⊢
 rw [bitsM_length]
 exact sign_code fix_room (by rw [fix_len]; exact hk) a c (by omega) (by rw [b]; exact h)
theorem fixD_read {B:List Bool} {p k:Nat} (hk:k<32) (h:standB B p (bitsM 5 k)):signE fixD B p=.ok (k,p+5):=by
 obtain ⟨a,b⟩:=fixD_code k hk
 exact sign_code fixD_room (by rw [fixD_len]; exact hk) a (by omega) (by omega) (by rw [b]; exact h)
def tokB:Tok→List Bool
 | .lit c=>signB c.toNat
 | .cpy n back=>signB (lenS n).1 ++ (bitsN (lenS n).2.1 (lenS n).2.2 ++ (bitsM 5 (distS back).1 ++ bitsN (distS back).2.1 (distS back).2.2))
theorem signB_pos (k:Nat):0<(signB k).length:=by unfold signB; rw [bitsM_length]; exact (fixN_ok _).1
attribute [irreducible] signB
theorem len_app2 (t:Tok) (y:List Bool):(tokB t ++ y).length=(tokB t).length+y.length:=List.length_append
theorem toks_readG {ls ds:List Nat} {B:List Bool} (rl:∀ p k,k<288→standB B p (signB k)→signE ls B p=.ok (k,p+(signB k).length)) (rd:∀ p k,k<32→standB B p (bitsM 5 k)→signE ds B p=.ok (k,p+5)) (rt:totL ds 15=32) {most:Nat}:∀ (r:List Tok) (out:List UInt8) (p f:Nat),okT r out→(runTk r out).length≤most→r.length<f→standB B p (r.flatMap tokB ++ signB 256) →
    signsE ls ds B most f p out=.ok (runTk r out,p+(r.flatMap tokB ++ signB 256).length):=by
  intro r
  induction r with
  | nil =>
    intro out p f _ _ hf hs
    obtain ⟨f,rfl⟩:∃ g,f=g+1:=⟨f - 1,by simp at hf; omega⟩
    rw [List.flatMap_nil,List.nil_append] at hs ⊢
    rw [signsE_succ,signK,rl _ _ (by omega) hs]
    simp only
    rw [if_neg (by omega),if_pos (by trivial)]
    unfold runTk; rfl
  | cons t r ih0 =>
   intro out p f ho hl hf hs
   cases t with
   | lit c =>
    obtain ⟨f,rfl⟩:∃ g,f=g+1:=⟨f - 1,by simp at hf; omega⟩
    have hc:c.toNat<256:=c.toNat_lt
    rw [List.flatMap_cons,List.append_assoc] at hs
    obtain ⟨s1,s2⟩:=standB_app hs
    have hlen:(out ++ [c]).length≤most:=Nat.le_trans (runTk_len r (out ++ [c])) hl
    rw [List.length_append] at hlen
    have e:UInt8.ofNat c.toNat=c:=by simp
    have ih:=ih0 (out ++ [c]) (p+(tokB (.lit c)).length) f ho hl (by simp at hf; omega) s2
    rw [signsE_succ,signK,rl _ _ (by omega) (show standB B p (signB c.toNat) from s1)]
    simp only
    rw [if_pos hc,e]
    unfold putE
    rw [if_neg (by simp at hlen; omega)]
    simp only
    rw [show p + (signB c.toNat).length = p + (tokB (.lit c)).length from rfl, ih, List.flatMap_cons, List.append_assoc, len_app2, Nat.add_assoc]; rfl
   | cpy n back =>
    obtain ⟨f,rfl⟩:∃ g,f=g+1:=⟨f - 1,by simp at hf; omega⟩
    obtain ⟨o1,o2,o3,o4,o5,ho⟩:=ho
    rw [List.flatMap_cons,List.append_assoc] at hs
    obtain ⟨s1,s2⟩:=standB_app hs
    have hlen:(copyL back n out).length≤most:=Nat.le_trans (runTk_len r _) hl
    rw [copyL_len] at hlen
    obtain ⟨t1,t2⟩:=standB_app (x:=signB (lenS n).1) s1
    obtain ⟨t3,t4⟩:=standB_app (x:=bitsN (lenS n).2.1 (lenS n).2.2) t2
    obtain ⟨t5,t6⟩:=standB_app (x:=bitsM 5 (distS back).1) t4
    have hsb:0<(signB (lenS n).1).length:=by exact signB_pos _
    have p1:=standB_len t1 hsb
    have p5:=standB_len t5 (by rw [bitsM_length]; omega)
    rw [bitsM_length] at p5
    obtain ⟨l1,l2,l3⟩:=len_read p1 o1 o2 t3
    rw [bitsN_length] at t5 t6 p5
    rw [bitsM_length] at t6
    obtain ⟨d1,d2⟩:=dist_read p5 o3 o4 t6
    have ih:=ih0 (copyL back n out) (p+(tokB (.cpy n back)).length) f ho hl (by simp at hf; omega) s2
    have el:(tokB (.cpy n back)).length=(signB (lenS n).1).length+((lenS n).2.1+(5+(distS back).2.1)):=by
      show (signB (lenS n).1 ++ (_ ++ (_ ++ _))).length=_
      rw [List.length_append,List.length_append,List.length_append,bitsN_length,bitsM_length,bitsN_length]
    rw [signsE_succ,signK,rl _ _ (by omega) t1]
    simp only
    rw [if_neg (by omega),if_neg (by omega),l1]
    simp only
    rw [rt,if_neg (by omega),rd _ _ (by omega) t5]
    simp only
    rw [d1]
    simp only
    rw [if_neg (by omega),copyE_ok hlen]
    simp only
    rw [show p+(signB (lenS n).1).length+(lenS n).2.1+5+(distS back).2.1=p+(tokB (.cpy n back)).length by rw [el]; omega,ih,List.flatMap_cons,List.append_assoc,len_app2,Nat.add_assoc]; rfl
theorem toks_read {B:List Bool} {most:Nat} (r:List Tok) (out:List UInt8) (p f:Nat) (h1:okT r out) (h2:(runTk r out).length≤most) (h3:r.length<f) (h4:standB B p (r.flatMap tokB ++ signB 256)) :
  signsE fixL fixD B most f p out=.ok (runTk r out,p+(r.flatMap tokB ++ signB 256).length) :=
 toks_readG (fun _ _ h=>fix_read h) (fun _ _ h=>fixD_read h) fixD_some r out p f h1 h2 h3 h4
end Go.Proofs.YtakolikdebfkeaaDoor
namespace Go.Proofs.YtakolikdebfkeaaDoor
def bytesE (B:List Bool) (most:Nat):Nat→Nat→List UInt8→RdE (List UInt8)
 | 0=>fun p out=>.ok (out,p)
 | n+1=>fun p out=>match numE B p 8 with
  | .error e=>.error e
  | .ok (c,p1)=>match putE most out (UInt8.ofNat c) with
   | .error e=>.error e
   | .ok o=>bytesE B most n p1 o
def storedE (B:List Bool) (most p:Nat) (out:List UInt8):RdE (List UInt8):=match numE B ((p+7) / 8 * 8) 16 with
 | .error e=>.error e
 | .ok (n,p1)=>match numE B p1 16 with
  | .error e=>.error e
  | .ok (m,p2)=>if m=65535 - n then bytesE B most n p2 out else .error 4
def goodL (ls:List Nat) (none:Bool):Bool:=decide (krL ls 15=32768) || (decide (totL ls 15=1) && decide (cntL ls 1=1)) || (none && decide (totL ls 15=0))
def belowE (B:List Bool) (p n most:Nat):RdE Nat:=match numE B p n with
 | .error e=>.error e
 | .ok (k,p1)=>if most≤k then .error 4 else .ok (k,p1)
def blockE (td:List Bool→Nat→RdE (List Nat × List Nat)) (B:List Bool) (most ty p:Nat) (out:List UInt8):RdE (List UInt8) :=
 if ty=0 then storedE B most p out
 else if ty=1 then signsE fixL fixD B most (B.length+1) p out
 else if ty=2 then match td B p with
  | .error e=>.error e
  | .ok (c,p1)=>signsE c.1 c.2 B most (B.length+1) p1 out
 else .error 4
def rawK (td:List Bool→Nat→RdE (List Nat × List Nat)) (B:List Bool) (most:Nat) (K:Nat→List UInt8→RdE (List UInt8)) (p:Nat) (out:List UInt8):RdE (List UInt8):=match bitE B p with
 | .error e=>.error e
 | .ok (last,p1)=>match numE B p1 2 with
  | .error e=>.error e
  | .ok (ty,p2)=>match blockE td B most ty p2 out with
   | .error e=>.error e
   | .ok (o,p3)=>if last=1 then .ok (o,p3) else K p3 o
def rawGo (td:List Bool→Nat→RdE (List Nat × List Nat)) (B:List Bool) (most:Nat):Nat→Nat→List UInt8→RdE (List UInt8)
 | 0=>fun _ _=>.error 0
 | k+1=>rawK td B most (rawGo td B most k)
def rawFin:RdE (List UInt8)→RdE (List UInt8)
 | .error e=>.error e
 | .ok (o,p)=>.ok (o,(p+7) / 8)
def rawE (td:List Bool→Nat→RdE (List Nat × List Nat)) (b:List UInt8) (most:Nat):RdE (List UInt8):=rawFin (rawGo td (bitsOf b) most (8 * b.length+1) 0 [])
variable {td : List Bool → Nat → RdE (List Nat × List Nat)}
def valB:List Bool→Nat
 | []=>0
 | b :: r=>b.toNat+2 * valB r
theorem valB_lt:∀ x:List Bool,valB x<2 ^ x.length
 | []=>by simp [valB]
 | b :: r=>by
  have:=valB_lt r
  rw [valB,List.length_cons,Nat.pow_succ]
  cases b <;> simp <;> omega
theorem valB_bit:∀ (x:List Bool) (j:Nat),(valB x).testBit j=x.getD j false
 | [],j=>by simp [valB]
 | b :: r,j=>by
  have h:valB (b :: r)=b.toNat+2 * valB r:=rfl
  cases j with
  | zero =>
   rw [h,Nat.testBit_zero]
   cases b <;> simp <;> omega
  | succ j =>
   rw [Nat.testBit_succ,h,show (b.toNat+2 * valB r) / 2=valB r by cases b <;> simp <;> omega,valB_bit r j]; rfl
def packB:Nat→List Bool→List UInt8
 | 0,_=>[]
 | k+1,W=>if W=[] then [] else UInt8.ofNat (valB (W.take 8)) :: packB k (W.drop 8)
def packW (W:List Bool):List UInt8:=packB (W.length+1) W
theorem byteB_val {x:List Bool} (h:x.length≤8):byteB (UInt8.ofNat (valB x))=x ++ List.replicate (8 - x.length) false:=by
 have hv:valB x<256:=by
  have h1:=valB_lt x
  have h2:2 ^ x.length≤2 ^ 8:=Nat.pow_le_pow_right (by omega) h
  omega
 apply List.ext_getElem?
 intro j
 unfold byteB
 rw [UInt8.toNat_ofNat',Nat.mod_eq_of_lt hv,List.getElem?_map]
 by_cases hj:j<8
 ·rw [List.getElem?_range hj,Option.map_some,valB_bit]
  by_cases hx:j<x.length
  ·rw [List.getElem?_append_left hx,List.getD_eq_getElem?_getD,List.getElem?_eq_getElem hx]; rfl
  ·rw [List.getElem?_append_right (by omega),List.getElem?_replicate,if_pos (by omega),List.getD_eq_getElem?_getD,List.getElem?_eq_none (by omega)]; rfl
 ·rw [List.getElem?_eq_none (by simp; omega),List.getElem?_eq_none (by simp; omega)]; rfl
theorem packB_bits:∀ (k:Nat) (W:List Bool),W.length<k→∃ z,bitsOf (packB k W)=W ++ List.replicate z false∧z<8∧(packB k W).length=(W.length+7) / 8
 | k+1,W,h=>by
  by_cases hW:W=[]
  ·subst hW; exact ⟨0,rfl,by omega,rfl⟩
  ·have hl:0<W.length:=List.length_pos_iff.2 hW
   rw [packB,if_neg hW]
   have e:∀ (c:UInt8) (l:List UInt8),bitsOf (c :: l)=byteB c ++ bitsOf l:=fun _ _=>rfl
   obtain ⟨z,h1,h2,h3⟩:=packB_bits k (W.drop 8) (by rw [List.length_drop]; omega)
   rw [e,byteB_val (by rw [List.length_take]; omega),List.length_take]
   rw [List.length_drop] at h3
   by_cases h8:8≤W.length
   ·refine ⟨z,?_,h2,by rw [List.length_cons,h3]; omega⟩
    rw [Nat.min_eq_left h8,Nat.sub_self,List.replicate_zero,List.append_nil,h1,← List.append_assoc,List.take_append_drop]
   ·refine ⟨8 - W.length,?_,by omega,by rw [List.length_cons,h3]; omega⟩
    have hd:W.drop 8=[]:=List.drop_eq_nil_of_le (by omega)
    rw [hd] at h1 ⊢
    have hz:packB k []=[]:=by
     cases k with
     | zero=>rfl
     | succ k=>rfl
    rw [hz,Nat.min_eq_right (by omega),List.take_of_length_le (by omega)]
    simp [bitsOf]
theorem packW_bits (W:List Bool):∃ z,bitsOf (packW W)=W ++ List.replicate z false∧z<8∧(packW W).length=(W.length+7) / 8:=packB_bits _ W (by omega)
theorem bitsOf_app (a b:List UInt8):bitsOf (a ++ b)=bitsOf a ++ bitsOf b:=by unfold bitsOf; rw [List.flatMap_append]
def fixW (r:List Tok):List Bool:=bitsN 3 3 ++ (r.flatMap tokB ++ signB 256)
theorem tokB_pos (t:Tok):0<(tokB t).length:=by
 cases t with
 | lit c=>exact signB_pos _
 | cpy n back =>
  have:=signB_pos (lenS n).1
  show 0<(signB (lenS n).1 ++ _).length
  rw [List.length_append]; omega
theorem toks_count:∀ r:List Tok,r.length≤(r.flatMap tokB).length
 | []=>Nat.le_refl _
 | t :: r=>by
  have h1:=toks_count r
  have h2:=tokB_pos t
  rw [List.flatMap_cons,List.length_append,List.length_cons]; omega
theorem fixW_raw (r:List Tok) {more:List UInt8} {most:Nat} (ho:okT r []) (hl:(runTk r []).length≤most):rawE td (packW (fixW r) ++ more) most=.ok (runTk r [],(packW (fixW r)).length):=by
 obtain ⟨z,h1,h2,h3⟩:=packW_bits (fixW r)
 have hB:bitsOf (packW (fixW r) ++ more)=fixW r ++ (List.replicate z false ++ bitsOf more):=by rw [bitsOf_app,h1,List.append_assoc]
 unfold rawE
 rw [hB]
 generalize hF:List.replicate z false ++ bitsOf more=F
 have hs:standB (fixW r ++ F) 0 (fixW r):=fun j hj=>by rw [Nat.zero_add,List.getElem?_append_left hj]
 have hlen:(fixW r ++ F).length=8 * (packW (fixW r) ++ more).length:=by rw [← hF,← hB,bitsOf_length]
 obtain ⟨s1,s2⟩:=standB_app (x:=bitsN 3 3) hs
 rw [bitsN_length] at s2
 have hw:(fixW r).length=3+(r.flatMap tokB ++ signB 256).length:=by unfold fixW; rw [List.length_append,bitsN_length]
 have hb0:bitE (fixW r ++ F) 0=.ok (1,1):=by
  unfold bitE
  have:=s1 0 (by rw [bitsN_length]; omega)
  rw [show (0:Nat)+0=0 from rfl] at this
  rw [this,bitsN_get (by omega)]; rfl
 have hb1:numE (fixW r ++ F) 1 2=.ok (1,1+2):=by
  refine num_read (by rw [List.length_append,hw]; omega) (by omega) fun j hj=>?_
  rw [bitsN_length] at hj
  have:=s1 (1+j) (by rw [bitsN_length]; omega)
  rw [Nat.zero_add] at this
  rw [this,bitsN_get (by omega),bitsN_get hj]
  match j,hj with
  | 0,_=>rfl
  | 1,_=>rfl
 have hc:=toks_count r
 have hr:=toks_read (B:=fixW r ++ F) (most:=most) r [] 3 ((fixW r ++ F).length+1) ho hl (by rw [List.length_append,hw,List.length_append]; omega) s2
 generalize fixW r ++ F=B at *
 show rawFin (rawK td B most (rawGo td B most (8 * (packW (fixW r) ++ more).length)) 0 [])=_
 unfold rawK
 rw [hb0]
 simp only
 rw [hb1]
 simp only
 unfold blockE
 rw [if_neg (by omega),if_pos (by trivial),show 1+2=3 from rfl,hr]
 simp only
 rw [if_pos (by trivial),h3,hw]; rfl
end Go.Proofs.YtakolikdebfkeaaDoor
