import Derived.Test.YtlkaaoekbmegkaaGreatDoorQAM3
import Derived.Test.YtlkaaoekbmegkaaGreatDoorRows
import Derived.Handed
import Derived.LaidMore
import Derived.LaidLaws
import Derived.LaidHandle
import Derived.MakeChecks
import Derived.SizedLaws
import Derived.Shelf.Vars
import Derived.OpenShut
import Derived.ChangeArms
import Derived.Stop.Joined
namespace Go.Proofs.YtlkaaoekbmegkaaGreatDoor
set_option linter.all false
open Go.RowKit
attribute [go_sem] b_scope b_gn b_gr b_gx b_skip b_reg b_draw b_seq b_cond b_block b_loop b_exit b_ret b_nil b_op b_gt b_gf b_dnil b_dop b_dgt b_dgf b_aq isB_t isB_u isB_f isB_g isB_p isU_t isU_b ifB_t ifB_f b_tn b_tx b_tr b_in b_ir b_ix b_rn b_rr b_pt b_pn b_pi b_pv b_of b_mk0 b_mk1 b_lk b_put nR0 nRs nRn sR0 sRs sRn sRm topR hp_toS lk_toS ev_toS ev_c exD AOp.isH keepN preB avalP pureR astep stV stN stE stC aval anew aElems frzS frzH aeff slots aret ares aress AV.isTup n_0 w_0 n_1 w_1 n_2 w_2 n_3 w_3 n_4 w_4 n_5 w_5 n_6 w_6 n_7 w_7 n_8 w_8 n_9 w_9 n_10 w_10 n_11 w_11 n_12 w_12 n_13 w_13 n_14 w_14 n_15 w_15 eqFs aEqS ofC_i ofC_b ofC_s ofC_U getD_mapU getD_Bs Bs_len Int.toNat_natCast opd pt tk subp rdP Rt.size Rt.isAgg Rt.zv aBin aInt aStr arI aUn aToInt aToStr aIdxS zv aIdxA aIa aIaA aFa aLd aFld pparts aLo aHi cutL aSlS aSl aExt aNck aNilc AV.isStr aLen AV.one AV.multi pureB szOk psz drp spl aEqB aEqA aMm aMkfn aMkif aBuild toV aBuildA wrP unparts view nilS St.ev lk St.put St.pin St.pinV acall0_if acall1 acall2 acall3_none acall3_if acall3b emp3 pv pvr pvs isP_nil isP_cons bor bor0 bor1 phiL_nil phiL_at tau lentO okIds flatC flatB flatOs flatO flatPs place setAll_nil setAll_cons nodupB renObj closeIds addNew idsOf idsObj posOf lenOk_0 lenOk_1 lenOk_2 lenOk_3 lenOk_4 lenOk_8 Option.isSome_none Option.isSome_some Bool.or_true Bool.true_or beq_self_eq_true List.map List.set List.map_cons List.map_nil List.flatMap_cons List.flatMap_nil List.flatten_cons List.flatten_nil true_and and_true List.length_cons List.length_nil List.nil_append List.cons_append List.append_nil Option.map mapO ren kp kpI ent nilG Option.bind List.range List.range.loop List.getElem?_cons_zero List.getElem?_cons_succ List.getElem?_nil List.getD_cons_zero List.getD_cons_succ List.drop_zero List.drop_succ_cons List.drop_nil List.take_zero List.take_succ_cons List.all_cons List.all_nil List.isEmpty_nil List.isEmpty_cons Bool.and_true Bool.true_and Bool.not_true Bool.not_false List.contains_nil List.contains_cons Bool.or_false Bool.false_or eq_self forall_const false_implies Bool.false_eq_true Nat.le_refl List.length_map List.length_set List.length_replicate and_self implies_true Bool.and_self Bool.false_and Bool.and_false finP finI Int.cast_ofNat_Int decide_true decide_false bq_t bq_f bq_u bq_g
end Go.Proofs.YtlkaaoekbmegkaaGreatDoor
namespace Go.Proofs.YtlkaaoekbmegkaaGreatDoor
set_option linter.all false
open Go.RowKit
theorem returns_shaped {H : Type} {enc : TypeId × Value → H} {f : FuncId} {fn : Func} {a : Assume} {C : Checked} {os : Os} {s : ChangeSpec} {conds : List PathCond} {apart fresh handsOn again : Bool} {X : World → Array Value → Prop}
    (hX : ∀ (w w' : World) (args : Array Value), w.heap = w'.heap → X w args → X w' args)
    (own : ownKnob C.prog.godebug = none) (started : os.Started) (noInit : C.prog.inits.idxOf? f = none) (hfn : C.prog.funcs[f]? = some fn)
    (witness : ∃ (w : World) (tape : Tape) (i : Input), w.os = os ∧ (w.forCall tape i).Shaped C.prog ∧ i.vars = [] ∧ Input.okWide C.prog (w.forCall tape i) .any w.heap.size f i ∧
      ((s.pre enc C.prog fn conds apart (w.forCall tape i).memory i.args ∧ X (w.forCall tape i).memory i.args) ∧ sizedMet enc C.prog fn (OpenSpec.ofChange s) apart (w.forCall tape i).memory i.args) ∧ a.holds C.prog (lone (Frame.enter C.prog f i.args .normal) [] (w.forCall tape i)))
    (contract : ∀ (W : World) (base : Nat) (args : Array Value) (ds gs : List (DataW H)) (before : List MemPlace),
      (∀ (j : Nat) t v, fn.params[j]? = some t → args[j]? = some v → Value.okWide C.prog W .any base t v) →
      DataW.Whole enc C.prog fn.params.toList s.vars apart W args.toList ds gs before →
      X W args → W.ShapedOpen C.prog →
      Calls C.prog f args W fun e W' => ∃ v, e = .returned v ∧ s.post enc C.prog fn apart fresh handsOn again W args v W') :
    ReturnsInHanded a C os f .any (fun w args => (s.pre enc C.prog fn conds apart w args ∧ X w args) ∧ sizedMet enc C.prog fn (OpenSpec.ofChange s) apart w args) (s.post enc C.prog fn apart fresh handsOn again) := by
  refine returnsInHanded_of_calls own started noInit witness ?_
  intro w tape i _ hsh _ hok hpre _
  obtain ⟨_, _, _, fn', hfn', _, _, _, _, hval⟩ := hok
  obtain rfl : fn' = fn := Option.some.inj (hfn'.symm.trans hfn)
  obtain ⟨⟨⟨ds, gs, before, hw, _⟩, hx⟩, _⟩ := hpre
  refine (contract (w.forCall tape i) w.heap.size i.args ds gs before hval (DataW.Whole.of_heap (w' := w.forCall tape i) (by rfl) hw) (hX _ _ _ (by rfl) hx) hsh).mono fun e W' ⟨v, he, hp⟩ => ?_
  subst he
  exact ChangeSpec.post_blind hp
end Go.Proofs.YtlkaaoekbmegkaaGreatDoor
namespace Go.Proofs.YtlkaaoekbmegkaaGreatDoor
set_option linter.all false
open Go.RowKit
def GeOk (w : World) (S : Nat → Prop) : Nat × GE → Prop
  | (g, .cells cs) => S g ∧ (∀ u ∈ cs, u.oneCell' = true) ∧ ∃ t fr, w.heap[g]? = some (.cells cs.toArray t fr)
  | (g, .err t l) => S g ∧ ∃ b o ty fr, w.heap[g]? = some (.cells #[.iface t (.pointer (some ⟨b, o, none⟩))] ty fr) ∧ S b ∧ w.cell? ⟨b, o, none⟩ = some (.string ⟨l.toArray⟩)
theorem glob1_ok {w : World} {S : Nat → Prop} {g sz : Nat} {x : AV} : ∀ l : List (Nat × GE), (∀ e ∈ l, GeOk w S e) → glob1 g l = some (sz, x) → S g ∧ ∃ us t fr, Cs w S rho0 x us ∧ us.length = sz ∧ w.heap[g]? = some (.cells us.toArray t fr) := by
  intro l
  induction l with
  | nil => intro _ h; cases h
  | cons e l ih =>
    intro h hg
    obtain ⟨k, e⟩ := e
    have h0 := h _ (List.mem_cons_self ..)
    have h1 := ih (fun e he => h e (List.mem_cons_of_mem _ he))
    cases e with
    | cells cs =>
      simp only [glob1] at hg
      split at hg
      · rename_i e
        subst e
        simp only [Option.some.injEq, Prod.mk.injEq] at hg
        obtain ⟨rfl, rfl⟩ := hg
        obtain ⟨a1, a2, t, fr, a3⟩ := h0
        exact ⟨a1, cs, t, fr, .blob cs a2, rfl, a3⟩
      · exact h1 hg
    | err t l =>
      simp only [glob1] at hg
      split at hg
      · rename_i e
        subst e
        simp only [Option.some.injEq, Prod.mk.injEq] at hg
        obtain ⟨rfl, rfl⟩ := hg
        obtain ⟨a1, b, o, ty, fr, a2, a3, a4⟩ := h0
        refine ⟨a1, [.iface t (.pointer (some ⟨b, o, none⟩))], ty, fr, ?_, rfl, a2⟩
        have hp : Cs w S rho0 (.ptr 1 (.str l) 0 0) [.pointer (some ⟨b, o + (0 + 0), none⟩)] := .ptr 1 (.str l) 0 0 [.string ⟨l.toArray⟩] b o a3 (.str l) rfl (fun j hj => by
          have : j = 0 := by simpa using hj
          subst this
          simpa using a4)
        exact .iface t _ _ hp
      · exact h1 hg
theorem globOk_of {w : World} {S : Nat → Prop} (h : ∀ e ∈ globs, GeOk w S e) (hi : ∀ g, globInts.contains g = true → S g ∧ ∃ m, w.cell? ⟨g, 0, none⟩ = some (.int .i64 m)) : GlobOk w S := ⟨fun _ _ _ hg => glob1_ok globs h hg, hi⟩
theorem laidVars_at {P : Program} {w : World} : ∀ (l : List (String × DataW Unit)) {ps : List MemPlace}, DataW.LaidVars P w l ps → ∀ (i : Nat) (n : String) (d : DataW Unit), l[i]? = some (n, d) →
    ∃ g t cs fuel p, P.globalNamed n = some g ∧ (P.globals[g]?).map (·.type) = some t ∧ w.var? P n = some cs ∧ DataW.trod (fun _ => ()) P w 0 (fun _ => true) false fuel t cs.toList = some (d, p) ∧ (∀ x ∈ MemPlace.row ⟨g, 0, none⟩ cs.size, x ∈ ps) ∧ (∀ x ∈ p, x ∈ ps) := by
  intro l
  induction l with
  | nil => intro ps _ i n d h; simp at h
  | cons e l ih =>
    intro ps h i n d hi
    obtain ⟨n0, d0⟩ := e
    obtain ⟨g, t, cs, fuel, p, q, h1, h2, h3, h4, h5, rfl⟩ := h
    cases i with
    | zero =>
      simp only [List.getElem?_cons_zero, Option.some.injEq, Prod.mk.injEq] at hi
      obtain ⟨rfl, rfl⟩ := hi
      exact ⟨g, t, cs, fuel, p, h1, h2, h3, h4, fun x hx => by simp [hx], fun x hx => by simp [hx]⟩
    | succ i =>
      obtain ⟨g', t', cs', fuel', p', k1, k2, k3, k4, k5, k6⟩ := ih h5 i n d (by simpa using hi)
      exact ⟨g', t', cs', fuel', p', k1, k2, k3, k4, fun x hx => by simp [k5 x hx], fun x hx => by simp [k6 x hx]⟩
theorem var_heap {P : Program} {w : World} {n : String} {g : Nat} {cs : Array Value} (hg : P.globalNamed n = some g) (h : w.var? P n = some cs) : ∃ t fr, w.heap[g]? = some (.cells cs t fr) := by
  simp only [World.var?, hg, Option.bind_some] at h
  split at h
  · rename_i cs' t fr e
    injection h with h
    subst h
    exact ⟨t, fr, e⟩
  · cases h
theorem lt_of_heap {w : World} {b : Nat} {x : Obj} (h : w.heap[b]? = some x) : b < w.heap.size := (Array.getElem?_eq_some_iff.1 h).1
theorem ge_cells {P : Program} {w : World} {l : List (String × DataW Unit)} {n : String} {k : IntKind} {zs : List Int} {g : Nat} {t e : TypeId} (h : laidMet P l w) (i : Nat)
    (hm : l[i]? = some (n, .agg (zs.map fun z => .lit (.int k z)))) (hg : P.globalNamed n = some g) (ht : (P.globals[g]?).map (·.type) = some t) (ha : P.underlying t = some (.array zs.length e)) (hct : P.cellsOf t = zs.length)
    (he : P.underlying e = some (.int k)) (hc : P.cellsOf e = 1) : GeOk w (fun b => b < w.heap.size) (g, .cells (zs.map fun z => .int k z)) := by
  obtain ⟨ps, hv, _, _⟩ := h
  obtain ⟨g', t', cs, fuel, p, h1, h2, h3, h4, _, _⟩ := laidVars_at l hv i n _ hm
  obtain rfl := Option.some.inj (hg.symm.trans h1)
  obtain rfl := Option.some.inj (ht.symm.trans h2)
  obtain ⟨ty, fr, hh⟩ := var_heap hg h3
  obtain ⟨xs, m, _, hx, hl, hn, hel⟩ := DataW.trod_array ha h4
  simp only [Prod.mk.injEq, DataW.agg.injEq] at hx
  have hcs : cs.toList = zs.map fun z => Value.int k z := by
    refine List.ext_getElem? fun j => ?_
    rcases Nat.lt_or_ge j zs.length with hj | hj
    · have h5 := hel j hj
      rw [hc] at h5
      obtain ⟨x, hxj⟩ : ∃ x, xs[j]? = some x := ⟨xs[j]'(by omega), List.getElem?_eq_getElem (by omega)⟩
      rw [hxj] at h5
      obtain ⟨z, e1, e2, _⟩ := DataW.trod_int he h5
      have e3 := congrArg (fun l => l[j]?) hx.1
      simp only [List.getElem?_map, hxj, Option.map_some, List.getElem?_eq_getElem hj] at e3
      rw [e2] at e3
      simp only [Option.some.injEq, DataW.lit.injEq, Lit.int.injEq, true_and] at e3
      have e4 := congrArg (fun l => l[0]?) e1
      simp only [List.getElem?_take, List.getElem?_drop, List.getElem?_cons_zero, Nat.lt_one_iff] at e4
      simp only [Nat.mul_one, Nat.add_zero, if_true] at e4
      rw [e4, List.getElem?_map, List.getElem?_eq_getElem hj, e3]
      rfl
    · rw [List.getElem?_eq_none (by omega), List.getElem?_eq_none (by simpa using hj)]
  refine ⟨lt_of_heap hh, fun u hu => ?_, ty, fr, by rw [hh, ← hcs]⟩
  obtain ⟨z, _, rfl⟩ := List.mem_map.1 hu
  rfl
theorem ge_err_of {P : Program} {w : World} {l : List (String × DataW Unit)} {n nm : String} {text : List UInt8} {g : Nat} {ti tp te ts : TypeId} {ms : Array (String × TypeId)} {f : Field} (h : laidMet P l w) (i : Nat)
    (hm : l[i]? = some (n, .iface nm (.ptr (.agg [.lit (.string text)])))) (hg : P.globalNamed n = some g) (ht : (P.globals[g]?).map (·.type) = some ti)
    (hi : P.underlying ti = some (.interface ms)) (hrow : ∀ u, P.typeName? 3 u = some nm → u = tp)
    (hp : P.underlying tp = some (.pointer te)) (he : P.underlying te = some (.struct #[f])) (hft : f.type = ts) (hfo : f.offset = 0) (hs : P.underlying ts = some .string) (hc : P.cellsOf te = 1) (hcs : P.cellsOf ts = 1) :
    GeOk w (fun b => b < w.heap.size) (g, .err tp text) := by
  obtain ⟨ps, hv, _, hrows⟩ := h
  obtain ⟨g', t', cs, fuel, p, h1, h2, h3, h4, h5, h6⟩ := laidVars_at l hv i n _ hm
  obtain rfl := Option.some.inj (hg.symm.trans h1)
  obtain rfl := Option.some.inj (ht.symm.trans h2)
  obtain ⟨ty, fr, hh⟩ := var_heap hg h3
  obtain ⟨l0⟩ := cs
  have ok0 : ∀ u v, l0 = [.iface u v] → Value.okWide P w .any 0 u v := fun u v e => by
    subst e
    exact (hrows g 0 (h5 _ (by simp [MemPlace.row]))).2 u v (by simpa using World.var?_cell hg h3 0)
  obtain ⟨a, s, rfl, hc0, hs0, _, rfl⟩ := errorString_of_trod hi hrow hp he hft hfo hs hc hcs h4 ok0
  obtain ⟨b, o, sp⟩ := a
  obtain ⟨⟨c, t0, hb0⟩, _⟩ := hrows b o (h6 _ (by simp [MemPlace.row]))
  have hsp : sp = none := by
    simp only [World.cell?, hb0] at hc0
    cases sp with
    | none => rfl
    | some _ => simp at hc0
  subst hsp
  refine ⟨lt_of_heap hh, b, o, ty, fr, hh, lt_of_heap hb0, ?_⟩
  rw [hc0]
  obtain ⟨⟨s⟩⟩ := s
  simp only at hs0
  subst hs0
  rfl
theorem star_err : "*" ++ "errors.errorString" = "*errors.errorString" := by decide
theorem row_err (u : TypeId) (h : Tryz.prog.typeName? 3 u = some "*errors.errorString") : u = 183 :=
  typeName_ptr_named (nm := "errors.errorString") (by rw [star_err]; kernel_rfl) (by kernel_rfl) (by decide) u (by rw [star_err]; exact h)
theorem ge_err {w : World} {l : List (String × DataW Unit)} {n : String} {text : List UInt8} {g : Nat} (h : laidMet Tryz.prog l w) (i : Nat)
    (hm : l[i]? = some (n, .iface "*errors.errorString" (.ptr (.agg [.lit (.string text)])))) (hg : Tryz.prog.globalNamed n = some g) (ht : (Tryz.prog.globals[g]?).map (·.type) = some 82) : GeOk w (fun b => b < w.heap.size) (g, .err 183 text) :=
  ge_err_of h i hm hg ht Tryz.underlying82 row_err Tryz.underlying183 Tryz.underlying185 rfl rfl Tryz.underlying9 (by kernel_rfl) (by kernel_rfl)
theorem glob_of_laid {W : World} (h0 : laidMetH Tryz.prog Rows.commitPrintsRow.laid W) (hsh : W.ShapedOpen Tryz.prog) : GlobOk W (fun b => b < W.heap.size) := by
  rw [MakeChecks.laidMetH_plain _ _ _ (by kernel_rfl)] at h0
  have h : laidMet Tryz.prog Rows.commitPrintsRow.laid W := h0
  refine globOk_of (fun e he => ?_) (fun g hx => by
    obtain rfl : g = 0 := by simpa [globInts] using hx
    obtain ⟨m, hm⟩ := cell_of_shapedOpen_int (zero := #[.int .i64 0]) (t := 3) (g := 0) hsh (of_decide_eq_true (by kernel_rfl)) (by kernel_rfl) rfl (by kernel_rfl) (by kernel_rfl) Tryz.underlying3
    exact ⟨World.block_lt_of_cell? _ _ hm, m, hm⟩)
  simp only [globs, List.mem_cons, List.not_mem_nil, or_false] at he
  rcases he with rfl | rfl | rfl
  · exact ge_cells (n := "internal/strconv.uint64pow10") (k := .u64) (t := 179) (e := 165) (zs := [1, 10, 100, 1000, 10000, 100000, 1000000, 10000000, 100000000, 1000000000, 10000000000, 100000000000, 1000000000000, 10000000000000, 100000000000000, 1000000000000000, 10000000000000000, 100000000000000000, 1000000000000000000, 10000000000000000000]) h 2 rfl (by kernel_rfl) (by kernel_rfl) (by kernel_rfl) (by kernel_rfl) (by kernel_rfl) (by kernel_rfl)
  · exact ge_err (n := "strconv.ErrRange") (text := [118, 97, 108, 117, 101, 32, 111, 117, 116, 32, 111, 102, 32, 114, 97, 110, 103, 101]) h 4 rfl (by kernel_rfl) (by kernel_rfl)
  · exact ge_err (n := "strconv.ErrSyntax") (text := [105, 110, 118, 97, 108, 105, 100, 32, 115, 121, 110, 116, 97, 120]) h 5 rfl (by kernel_rfl) (by kernel_rfl)
end Go.Proofs.YtlkaaoekbmegkaaGreatDoor
namespace Go.Proofs.YtlkaaoekbmegkaaGreatDoor
set_option linter.all false
open Go.RowKit
section
variable {P : Program} {f : FuncId} {sp sp1 sp2 : Spec}
theorem FnOk.or (h1 : FnOk P f sp1) (h2 : FnOk P f sp2) (h : ∀ avs hp r, sp avs hp = some r → r.pre → (∃ r', sp1 avs hp = some r' ∧ r'.pre ∧ r'.v = r.v ∧ r'.hp = r.hp) ∨ (∃ r', sp2 avs hp = some r' ∧ r'.pre ∧ r'.v = r.v ∧ r'.hp = r.hp)) : FnOk P f sp := by
  intro avs hp r hs hp' w S ρ args H ha
  rcases h avs hp r hs hp' with ⟨r', k1, k2, k3, k4⟩ | ⟨r', k1, k2, k3, k4⟩
  · rw [← k3, ← k4]; exact h1 avs hp r' k1 k2 w S ρ args H ha
  · rw [← k3, ← k4]; exact h2 avs hp r' k1 k2 w S ρ args H ha
theorem FnOk.imp (h1 : FnOk P f sp1) (h : ∀ avs hp r, sp avs hp = some r → r.pre → ∃ r', sp1 avs hp = some r' ∧ r'.pre ∧ r'.v = r.v ∧ r'.hp = r.hp) : FnOk P f sp :=
  FnOk.or h1 h1 fun avs hp r hs hp' => .inl (h avs hp r hs hp')
def isOwn (ver : Nat) : AV → Bool
  | .own 0 v => v == ver
  | _ => false
theorem isOwn_eq {ver : Nat} {x : AV} (h : isOwn ver x = true) : x = .own 0 ver := by
  unfold isOwn at h
  split at h
  · rw [beq_iff_eq.1 h]
  · cases h
def fz1 (ver : Nat) (y x : AV) : AV := if isOwn ver x then y else x
def fzOk (ver : Nat) (x : AV) : Bool := isOwn ver x || (pureB 4 x && !(match x with | .tup _ => true | _ => false))
def fz (ver : Nat) (y : AV) : AV → AV
  | .tup l => .tup (l.map (fz1 ver y))
  | x => fz1 ver y x
def fzOkV (ver : Nat) : AV → Bool
  | .tup l => l.all (fzOk ver)
  | x => fzOk ver x
theorem FnOk.freeze (h : FnOk P f sp1) (hh : ∀ avs hp r', sp avs hp = some r' → r'.pre → hp = [] ∧ ∃ r e sz ver xs, sp1 avs [] = some r ∧ r.pre ∧ r.hp = [.row e sz ver xs] ∧ 0 < sz ∧ fzOkV ver r.v = true ∧ r'.v = fz ver (.sl sz xs) r.v ∧ r'.hp = []) : FnOk P f sp := by
  intro avs hp r' hs hp' w S ρ args H ha
  obtain ⟨rfl, r, e, sz, ver, xs, k1, k2, k3, k4, k5, k6, k7⟩ := hh avs hp r' hs hp'
  refine (h avs [] r k1 k2 w S ρ args H ha).mono ?_
  rintro e0 w' ⟨v, S', ρ', rfl, hv, H', hE, hS⟩
  rw [k3] at H'
  obtain ⟨L, us, o1, o2, o3, o4, o5, o6⟩ := H'.ob 0 _ rfl
  subst o3
  have hM := o4.mem o2 o5
  have hblk : (AObj.row e L.sz ver xs).blk ρ' 0 = ablk L.A := by simp [AObj.blk, o1]
  have hsl : ∀ w ρ, w = w' → Vl w (fun b => S' b ∨ ablk L.A = some b) ρ (.sl L.sz xs) (.slice L.A L.n L.c) := fun w ρ ew => by subst ew; exact hM.sl k4 (fun b hb => .inr hb) (fun b hb => .inl hb)
  have one : ∀ x u, fzOk ver x = true → Vl1 w' S' ρ' x u → Vl1 w' (fun b => S' b ∨ ablk L.A = some b) ρ (fz1 ver (.sl L.sz xs) x) u := by
    intro x u hx hu
    unfold fz1
    cases ho : isOwn ver x with
    | true =>
      have hx' := isOwn_eq ho
      subst hx'
      have hu' : Vl w' S' ρ' (.own 0 ver) u := hu
      obtain ⟨L', e1, rfl⟩ := hu'.own
      rw [o1] at e1; injection e1 with e1; subst e1
      exact hsl w' ρ rfl
    | false =>
      rw [if_neg (by simp)]
      unfold fzOk at hx
      rw [ho, Bool.false_or, Bool.and_eq_true] at hx
      rcases hu with hu | ⟨vs, hc, hu⟩
      · exact .inl hu
      · exact .inr ⟨vs, pureB_ok 4 (hc.ext (fun _ _ => rfl) (fun b hb => .inl hb) (fun _ _ _ h => h)) hx.1, hu⟩
  refine ⟨v, fun b => S' b ∨ ablk L.A = some b, ρ, rfl, ?_, ?_, ⟨hE.mem, fun b hb => .inl (hE.st b hb), fun _ _ _ h => h⟩, ?_⟩
  · rw [k6]
    cases hrv : r.v with
    | tup l =>
      rw [hrv] at hv k5
      obtain ⟨vs, e1, e2, e3⟩ := hv
      refine ⟨vs, e1, by simpa using e2, fun i hi => ?_⟩
      simp only [List.length_map] at hi
      have h1 := one (l.getD i .top) (vs.getD i undef) (by
        have := List.all_eq_true.1 k5 (l.getD i .top) (by rw [List.getD_eq_getElem?_getD, List.getElem?_eq_getElem hi]; exact List.getElem_mem _)
        exact this) (e3 i hi)
      have e4 : (l.map (fz1 ver (.sl L.sz xs))).getD i .top = fz1 ver (.sl L.sz xs) (l.getD i .top) := by
        rw [List.getD_eq_getElem?_getD, List.getElem?_map, List.getD_eq_getElem?_getD, List.getElem?_eq_getElem hi]; rfl
      rw [e4]; exact h1
    | _ =>
      rw [hrv] at hv k5
      have h1 := one _ v k5 (Vl.to1 (by intro xs; simp) hv)
      refine Vl.of1 (fun ys hy => ?_) h1
      simp only [fz, fz1] at hy
      split at hy <;> cases hy
  · rw [k7]
    refine ⟨H'.kept, fun id o ho => by simp at ho, fun i j x y _ hx => by simp at hx, fun id o ho => by simp at ho, fun b hb => ?_, fun id _ v => H.new id (Nat.zero_le _) v, fun id o ho => by simp at ho⟩
    rcases hb with hb | hb
    · exact H'.slt b hb
    · rcases o4.2 with ⟨z1, _, _⟩ | ⟨g, cur, fr, z1, z2, _⟩
      · rw [z1] at hb; cases hb
      · rw [z1] at hb
        have : g = b := by simpa [ablk] using hb
        subst this
        exact (Array.getElem?_eq_some_iff.1 z2).1
  · rintro b (hb | hb)
    · exact hS b hb
    · rcases H'.mine 0 _ rfl b (by rw [hblk]; exact hb) with h1 | h1
      · exact .inr (.inr h1)
      · exact .inr (.inl h1)
end
section
variable {P : Program} {f : FuncId} {sp : Spec}
end
theorem loop2P {Φ : Phi} {m : Nat} {c : ACode} {Q : Exit → S2 → Prop} {s : S2} {α : Type} (nils : List (Nat × TypeId × Nat)) (sl ids : List Nat) (st : α → St) (Inv : α → Prop) (μ : α → Nat) (a0 : α) (hk : ent nils sl ids (toS s) = some (st a0)) (h0 : Inv a0) (hm : nodupB ids = true ∧ ids.take m = List.range m)
    (h : ∀ a, Inv a → ∀ R : S2 → Prop, (∀ s' a', Inv a' → μ a' < μ a → kp sl ids.length (toS s') = some (st a') → R s') → awp2 Φ m c (thenQ2 R Q) (ofS (st a))) : loopQ2 m (awp2 Φ m c) Q s :=
  loop2 nils sl ids st Inv μ a0 hk h0 hm fun a ha => h a ha _ fun _ a' h1 h2 h3 => ⟨a', h1, h2, h3⟩
end Go.Proofs.YtlkaaoekbmegkaaGreatDoor
