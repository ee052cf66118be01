import Derived.Test.YtfabdnpeohpgnaaDoorQAM3
import Derived.Test.YtfabdnpeohpgnaaDoorRows
import Derived.Handed
import Derived.LaidMore
import Derived.LaidLaws
import Derived.LaidHandle
import Derived.MakeChecks
import Derived.SizedLaws
import Derived.Shelf.Vars
import Derived.OpenShut
import Derived.ChangeArms
import Derived.Stop.Joined
import Derived.Test.YtfabdnpeohpgnaaDoorProg
import Derived.Shelf.Strings.Builder1
import Derived.Laws.EntriesVeiled
import Derived.Lib.UnsafeStr
import Derived.Lib.MakeNoZero
import Derived.Laws.IdiomCopy
namespace Go.Proofs.YtfabdnpeohpgnaaDoor
set_option linter.all false
open Go.RowKit
attribute [go_sem] b_scope b_gn b_gr b_gx b_skip b_reg b_draw b_seq b_cond b_block b_loop b_exit b_ret b_nil b_op b_gt b_gf b_dnil b_dop b_dgt b_dgf b_aq isB_t isB_u isB_f isB_g isB_p isU_t isU_b ifB_t ifB_f b_tn b_tx b_tr b_in b_ir b_ix b_rn b_rr b_pt b_pn b_pi b_pv b_of b_mk0 b_mk1 b_lk b_put nR0 nRs nRn sR0 sRs sRn sRm topR hp_toS lk_toS ev_toS ev_c exD AOp.isH keepN preB avalP pureR astep stV stN stE stC aval anew aElems frzS frzH aeff slots aret ares aress AV.isTup n_0 w_0 n_1 w_1 n_2 w_2 n_3 w_3 n_4 w_4 n_5 w_5 n_6 w_6 n_7 w_7 n_8 w_8 n_9 w_9 n_10 w_10 n_11 w_11 n_12 w_12 n_13 w_13 n_14 w_14 n_15 w_15 eqFs aEqS ofC_i ofC_b ofC_s ofC_U getD_mapU getD_Bs Bs_len Int.toNat_natCast opd pt tk subp rdP Rt.size Rt.isAgg Rt.zv aBin aInt aStr arI aUn aToInt aToStr aIdxS zv aIdxA aIa aIaA aFa aLd aFld pparts aLo aHi cutL aSlS aSl aExt aNck aNilc AV.isStr aLen AV.one AV.multi pureB szOk psz drp spl aEqB aEqA aMm aMkfn aMkif aBuild toV aBuildA wrP unparts view nilS St.ev lk St.put St.pin St.pinV acall0_if acall1 acall2 acall3_none acall3_if acall3b emp3 pv pvr pvs isP_nil isP_cons bor bor0 bor1 phiL_nil phiL_at tau lentO okIds flatC flatB flatOs flatO flatPs place setAll_nil setAll_cons nodupB renObj closeIds addNew idsOf idsObj posOf lenOk_0 lenOk_1 lenOk_2 lenOk_3 lenOk_4 lenOk_8 Option.isSome_none Option.isSome_some Bool.or_true Bool.true_or beq_self_eq_true List.map List.set List.map_cons List.map_nil List.flatMap_cons List.flatMap_nil List.flatten_cons List.flatten_nil true_and and_true List.length_cons List.length_nil List.nil_append List.cons_append List.append_nil Option.map mapO ren kp kpI ent nilG Option.bind List.range List.range.loop List.getElem?_cons_zero List.getElem?_cons_succ List.getElem?_nil List.getD_cons_zero List.getD_cons_succ List.drop_zero List.drop_succ_cons List.drop_nil List.take_zero List.take_succ_cons List.all_cons List.all_nil List.isEmpty_nil List.isEmpty_cons Bool.and_true Bool.true_and Bool.not_true Bool.not_false List.contains_nil List.contains_cons Bool.or_false Bool.false_or eq_self forall_const false_implies Bool.false_eq_true Nat.le_refl List.length_map List.length_set List.length_replicate and_self implies_true Bool.and_self Bool.false_and Bool.and_false finP finI Int.cast_ofNat_Int decide_true decide_false bq_t bq_f bq_u bq_g
end Go.Proofs.YtfabdnpeohpgnaaDoor
namespace Go.Proofs.YtfabdnpeohpgnaaDoor
set_option linter.all false
open Go.RowKit
theorem returns_shaped {H : Type} {enc : TypeId × Value → H} {f : FuncId} {fn : Func} {a : Assume} {C : Checked} {os : Os} {s : ChangeSpec} {conds : List PathCond} {apart fresh handsOn again : Bool} {X : World → Array Value → Prop}
    (hX : ∀ (w w' : World) (args : Array Value), w.heap = w'.heap → X w args → X w' args)
    (own : ownKnob C.prog.godebug = none) (started : os.Started) (noInit : C.prog.inits.idxOf? f = none) (hfn : C.prog.funcs[f]? = some fn)
    (witness : ∃ (w : World) (tape : Tape) (i : Input), w.os = os ∧ (w.forCall tape i).Shaped C.prog ∧ i.vars = [] ∧ Input.okWide C.prog (w.forCall tape i) .any w.heap.size f i ∧
      ((s.pre enc C.prog fn conds apart (w.forCall tape i).memory i.args ∧ X (w.forCall tape i).memory i.args) ∧ sizedMet enc C.prog fn (OpenSpec.ofChange s) apart (w.forCall tape i).memory i.args) ∧ a.holds C.prog (lone (Frame.enter C.prog f i.args .normal) [] (w.forCall tape i)))
    (contract : ∀ (W : World) (base : Nat) (args : Array Value) (ds gs : List (DataW H)) (before : List MemPlace),
      (∀ (j : Nat) t v, fn.params[j]? = some t → args[j]? = some v → Value.okWide C.prog W .any base t v) →
      DataW.Whole enc C.prog fn.params.toList s.vars apart W args.toList ds gs before →
      X W args → W.ShapedOpen C.prog →
      Calls C.prog f args W fun e W' => ∃ v, e = .returned v ∧ s.post enc C.prog fn apart fresh handsOn again W args v W') :
    ReturnsInHanded a C os f .any (fun w args => (s.pre enc C.prog fn conds apart w args ∧ X w args) ∧ sizedMet enc C.prog fn (OpenSpec.ofChange s) apart w args) (s.post enc C.prog fn apart fresh handsOn again) := by
  refine returnsInHanded_of_calls own started noInit witness ?_
  intro w tape i _ hsh _ hok hpre _
  obtain ⟨_, _, _, fn', hfn', _, _, _, _, hval⟩ := hok
  obtain rfl : fn' = fn := Option.some.inj (hfn'.symm.trans hfn)
  obtain ⟨⟨⟨ds, gs, before, hw, _⟩, hx⟩, _⟩ := hpre
  refine (contract (w.forCall tape i) w.heap.size i.args ds gs before hval (DataW.Whole.of_heap (w' := w.forCall tape i) (by rfl) hw) (hX _ _ _ (by rfl) hx) hsh).mono fun e W' ⟨v, he, hp⟩ => ?_
  subst he
  exact ChangeSpec.post_blind hp
end Go.Proofs.YtfabdnpeohpgnaaDoor
namespace Go.Proofs.YtfabdnpeohpgnaaDoor
set_option linter.all false
open Go.RowKit
def GeOk (w : World) (S : Nat → Prop) : Nat × GE → Prop
  | (g, .cells cs) => S g ∧ (∀ u ∈ cs, u.oneCell' = true) ∧ ∃ t fr, w.heap[g]? = some (.cells cs.toArray t fr)
  | (g, .err t l) => S g ∧ ∃ b o ty fr, w.heap[g]? = some (.cells #[.iface t (.pointer (some ⟨b, o, none⟩))] ty fr) ∧ S b ∧ w.cell? ⟨b, o, none⟩ = some (.string ⟨l.toArray⟩)
theorem glob1_ok {w : World} {S : Nat → Prop} {g sz : Nat} {x : AV} : ∀ l : List (Nat × GE), (∀ e ∈ l, GeOk w S e) → glob1 g l = some (sz, x) → S g ∧ ∃ us t fr, Cs w S rho0 x us ∧ us.length = sz ∧ w.heap[g]? = some (.cells us.toArray t fr) := by
  intro l
  induction l with
  | nil => intro _ h; cases h
  | cons e l ih =>
    intro h hg
    obtain ⟨k, e⟩ := e
    have h0 := h _ (List.mem_cons_self ..)
    have h1 := ih (fun e he => h e (List.mem_cons_of_mem _ he))
    cases e with
    | cells cs =>
      simp only [glob1] at hg
      split at hg
      · rename_i e
        subst e
        simp only [Option.some.injEq, Prod.mk.injEq] at hg
        obtain ⟨rfl, rfl⟩ := hg
        obtain ⟨a1, a2, t, fr, a3⟩ := h0
        exact ⟨a1, cs, t, fr, .blob cs a2, rfl, a3⟩
      · exact h1 hg
    | err t l =>
      simp only [glob1] at hg
      split at hg
      · rename_i e
        subst e
        simp only [Option.some.injEq, Prod.mk.injEq] at hg
        obtain ⟨rfl, rfl⟩ := hg
        obtain ⟨a1, b, o, ty, fr, a2, a3, a4⟩ := h0
        refine ⟨a1, [.iface t (.pointer (some ⟨b, o, none⟩))], ty, fr, ?_, rfl, a2⟩
        have hp : Cs w S rho0 (.ptr 1 (.str l) 0 0) [.pointer (some ⟨b, o + (0 + 0), none⟩)] := .ptr 1 (.str l) 0 0 [.string ⟨l.toArray⟩] b o a3 (.str l) rfl (fun j hj => by
          have : j = 0 := by simpa using hj
          subst this
          simpa using a4)
        exact .iface t _ _ hp
      · exact h1 hg
theorem globOk_of {w : World} {S : Nat → Prop} (h : ∀ e ∈ globs, GeOk w S e) (hi : ∀ g, globInts.contains g = true → S g ∧ ∃ m, w.cell? ⟨g, 0, none⟩ = some (.int .i64 m)) : GlobOk w S := ⟨fun _ _ _ hg => glob1_ok globs h hg, hi⟩
theorem laidVars_at {P : Program} {w : World} : ∀ (l : List (String × DataW Unit)) {ps : List MemPlace}, DataW.LaidVars P w l ps → ∀ (i : Nat) (n : String) (d : DataW Unit), l[i]? = some (n, d) →
    ∃ g t cs fuel p, P.globalNamed n = some g ∧ (P.globals[g]?).map (·.type) = some t ∧ w.var? P n = some cs ∧ DataW.trod (fun _ => ()) P w 0 (fun _ => true) false fuel t cs.toList = some (d, p) ∧ (∀ x ∈ MemPlace.row ⟨g, 0, none⟩ cs.size, x ∈ ps) ∧ (∀ x ∈ p, x ∈ ps) := by
  intro l
  induction l with
  | nil => intro ps _ i n d h; simp at h
  | cons e l ih =>
    intro ps h i n d hi
    obtain ⟨n0, d0⟩ := e
    obtain ⟨g, t, cs, fuel, p, q, h1, h2, h3, h4, h5, rfl⟩ := h
    cases i with
    | zero =>
      simp only [List.getElem?_cons_zero, Option.some.injEq, Prod.mk.injEq] at hi
      obtain ⟨rfl, rfl⟩ := hi
      exact ⟨g, t, cs, fuel, p, h1, h2, h3, h4, fun x hx => by simp [hx], fun x hx => by simp [hx]⟩
    | succ i =>
      obtain ⟨g', t', cs', fuel', p', k1, k2, k3, k4, k5, k6⟩ := ih h5 i n d (by simpa using hi)
      exact ⟨g', t', cs', fuel', p', k1, k2, k3, k4, fun x hx => by simp [k5 x hx], fun x hx => by simp [k6 x hx]⟩
theorem var_heap {P : Program} {w : World} {n : String} {g : Nat} {cs : Array Value} (hg : P.globalNamed n = some g) (h : w.var? P n = some cs) : ∃ t fr, w.heap[g]? = some (.cells cs t fr) := by
  simp only [World.var?, hg, Option.bind_some] at h
  split at h
  · rename_i cs' t fr e
    injection h with h
    subst h
    exact ⟨t, fr, e⟩
  · cases h
theorem lt_of_heap {w : World} {b : Nat} {x : Obj} (h : w.heap[b]? = some x) : b < w.heap.size := (Array.getElem?_eq_some_iff.1 h).1
theorem ge_cells {P : Program} {w : World} {l : List (String × DataW Unit)} {n : String} {k : IntKind} {zs : List Int} {g : Nat} {t e : TypeId} (h : laidMet P l w) (i : Nat)
    (hm : l[i]? = some (n, .agg (zs.map fun z => .lit (.int k z)))) (hg : P.globalNamed n = some g) (ht : (P.globals[g]?).map (·.type) = some t) (ha : P.underlying t = some (.array zs.length e)) (hct : P.cellsOf t = zs.length)
    (he : P.underlying e = some (.int k)) (hc : P.cellsOf e = 1) : GeOk w (fun b => b < w.heap.size) (g, .cells (zs.map fun z => .int k z)) := by
  obtain ⟨ps, hv, _, _⟩ := h
  obtain ⟨g', t', cs, fuel, p, h1, h2, h3, h4, _, _⟩ := laidVars_at l hv i n _ hm
  obtain rfl := Option.some.inj (hg.symm.trans h1)
  obtain rfl := Option.some.inj (ht.symm.trans h2)
  obtain ⟨ty, fr, hh⟩ := var_heap hg h3
  obtain ⟨xs, m, _, hx, hl, hn, hel⟩ := DataW.trod_array ha h4
  simp only [Prod.mk.injEq, DataW.agg.injEq] at hx
  have hcs : cs.toList = zs.map fun z => Value.int k z := by
    refine List.ext_getElem? fun j => ?_
    rcases Nat.lt_or_ge j zs.length with hj | hj
    · have h5 := hel j hj
      rw [hc] at h5
      obtain ⟨x, hxj⟩ : ∃ x, xs[j]? = some x := ⟨xs[j]'(by omega), List.getElem?_eq_getElem (by omega)⟩
      rw [hxj] at h5
      obtain ⟨z, e1, e2, _⟩ := DataW.trod_int he h5
      have e3 := congrArg (fun l => l[j]?) hx.1
      simp only [List.getElem?_map, hxj, Option.map_some, List.getElem?_eq_getElem hj] at e3
      rw [e2] at e3
      simp only [Option.some.injEq, DataW.lit.injEq, Lit.int.injEq, true_and] at e3
      have e4 := congrArg (fun l => l[0]?) e1
      simp only [List.getElem?_take, List.getElem?_drop, List.getElem?_cons_zero, Nat.lt_one_iff] at e4
      simp only [Nat.mul_one, Nat.add_zero, if_true] at e4
      rw [e4, List.getElem?_map, List.getElem?_eq_getElem hj, e3]
      rfl
    · rw [List.getElem?_eq_none (by omega), List.getElem?_eq_none (by simpa using hj)]
  refine ⟨lt_of_heap hh, fun u hu => ?_, ty, fr, by rw [hh, ← hcs]⟩
  obtain ⟨z, _, rfl⟩ := List.mem_map.1 hu
  rfl
theorem ge_err_of {P : Program} {w : World} {l : List (String × DataW Unit)} {n nm : String} {text : List UInt8} {g : Nat} {ti tp te ts : TypeId} {ms : Array (String × TypeId)} {f : Field} (h : laidMet P l w) (i : Nat)
    (hm : l[i]? = some (n, .iface nm (.ptr (.agg [.lit (.string text)])))) (hg : P.globalNamed n = some g) (ht : (P.globals[g]?).map (·.type) = some ti)
    (hi : P.underlying ti = some (.interface ms)) (hrow : ∀ u, P.typeName? 3 u = some nm → u = tp)
    (hp : P.underlying tp = some (.pointer te)) (he : P.underlying te = some (.struct #[f])) (hft : f.type = ts) (hfo : f.offset = 0) (hs : P.underlying ts = some .string) (hc : P.cellsOf te = 1) (hcs : P.cellsOf ts = 1) :
    GeOk w (fun b => b < w.heap.size) (g, .err tp text) := by
  obtain ⟨ps, hv, _, hrows⟩ := h
  obtain ⟨g', t', cs, fuel, p, h1, h2, h3, h4, h5, h6⟩ := laidVars_at l hv i n _ hm
  obtain rfl := Option.some.inj (hg.symm.trans h1)
  obtain rfl := Option.some.inj (ht.symm.trans h2)
  obtain ⟨ty, fr, hh⟩ := var_heap hg h3
  obtain ⟨l0⟩ := cs
  have ok0 : ∀ u v, l0 = [.iface u v] → Value.okWide P w .any 0 u v := fun u v e => by
    subst e
    exact (hrows g 0 (h5 _ (by simp [MemPlace.row]))).2 u v (by simpa using World.var?_cell hg h3 0)
  obtain ⟨a, s, rfl, hc0, hs0, _, rfl⟩ := errorString_of_trod hi hrow hp he hft hfo hs hc hcs h4 ok0
  obtain ⟨b, o, sp⟩ := a
  obtain ⟨⟨c, t0, hb0⟩, _⟩ := hrows b o (h6 _ (by simp [MemPlace.row]))
  have hsp : sp = none := by
    simp only [World.cell?, hb0] at hc0
    cases sp with
    | none => rfl
    | some _ => simp at hc0
  subst hsp
  refine ⟨lt_of_heap hh, b, o, ty, fr, hh, lt_of_heap hb0, ?_⟩
  rw [hc0]
  obtain ⟨⟨s⟩⟩ := s
  simp only at hs0
  subst hs0
  rfl
theorem star_err : "*" ++ "errors.errorString" = "*errors.errorString" := by decide
theorem row_err (u : TypeId) (h : Tryd.prog.typeName? 3 u = some "*errors.errorString") : u = 133 :=
  typeName_ptr_named (nm := "errors.errorString") (by rw [star_err]; kernel_rfl) (by kernel_rfl) (by decide) u (by rw [star_err]; exact h)
theorem ge_err {w : World} {l : List (String × DataW Unit)} {n : String} {text : List UInt8} {g : Nat} (h : laidMet Tryd.prog l w) (i : Nat)
    (hm : l[i]? = some (n, .iface "*errors.errorString" (.ptr (.agg [.lit (.string text)])))) (hg : Tryd.prog.globalNamed n = some g) (ht : (Tryd.prog.globals[g]?).map (·.type) = some 72) : GeOk w (fun b => b < w.heap.size) (g, .err 133 text) :=
  ge_err_of h i hm hg ht Tryd.underlying72 row_err Tryd.underlying133 Tryd.underlying135 rfl rfl Tryd.underlying9 (by kernel_rfl) (by kernel_rfl)
theorem glob_of_laid {W : World} (h0 : laidMetH Tryd.prog Rows.changeBackRow.laid W) (hsh : W.ShapedOpen Tryd.prog) : GlobOk W (fun b => b < W.heap.size) := by
  rw [MakeChecks.laidMetH_plain _ _ _ (by kernel_rfl)] at h0
  have h : laidMet Tryd.prog Rows.changeBackRow.laid W := h0
  refine globOk_of (fun e he => ?_) (fun g hx => by
    obtain rfl : g = 0 := by simpa [globInts] using hx
    obtain ⟨m, hm⟩ := cell_of_shapedOpen_int (zero := #[.int .i64 0]) (t := 3) (g := 0) hsh (of_decide_eq_true (by kernel_rfl)) (by kernel_rfl) rfl (by kernel_rfl) (by kernel_rfl) Tryd.underlying3
    exact ⟨World.block_lt_of_cell? _ _ hm, m, hm⟩)
  simp only [globs, List.mem_cons, List.not_mem_nil, or_false] at he
  rcases he with rfl | rfl | rfl
  · exact ge_cells (n := "internal/strconv.uint64pow10") (k := .u64) (t := 123) (e := 104) (zs := [1, 10, 100, 1000, 10000, 100000, 1000000, 10000000, 100000000, 1000000000, 10000000000, 100000000000, 1000000000000, 10000000000000, 100000000000000, 1000000000000000, 10000000000000000, 100000000000000000, 1000000000000000000, 10000000000000000000]) h 2 rfl (by kernel_rfl) (by kernel_rfl) (by kernel_rfl) (by kernel_rfl) (by kernel_rfl) (by kernel_rfl)
  · exact ge_err (n := "strconv.ErrRange") (text := [118, 97, 108, 117, 101, 32, 111, 117, 116, 32, 111, 102, 32, 114, 97, 110, 103, 101]) h 4 rfl (by kernel_rfl) (by kernel_rfl)
  · exact ge_err (n := "strconv.ErrSyntax") (text := [105, 110, 118, 97, 108, 105, 100, 32, 115, 121, 110, 116, 97, 120]) h 5 rfl (by kernel_rfl) (by kernel_rfl)
end Go.Proofs.YtfabdnpeohpgnaaDoor
namespace Go.Proofs.YtfabdnpeohpgnaaDoor
set_option linter.all false
open Go.RowKit
set_option maxHeartbeats 1000000 in
set_option maxRecDepth 100000 in
theorem copyCheck_used (b : Nat) (w : World) (h0 : w.cell? ⟨b, 0, none⟩ = some (.pointer (some ⟨b, 0, none⟩))) :
    Calls Tryd.prog 42 #[.pointer (some ⟨b, 0, none⟩)] w fun e w' => e = .returned (.tuple #[]) ∧ w' = w := by
  obtain ⟨j, hj, _⟩ := Option.map_eq_some_iff.1 (show (Tryd.prog.info? 70).map (·.size) = some 2 by kernel_rfl)
  go_enter Tryd.func42, Tryd.ntmps42
  go_wp2
  rw [Lib.run_neq_ptr_same w _ Tryd.underlying68 hj]
  go_wp2
  go_end0
  exact ⟨rfl, rfl⟩
set_option maxHeartbeats 1000000 in
set_option maxRecDepth 100000 in
theorem copyCheck_fresh (b : Nat) (w : World) (h0 : w.cell? ⟨b, 0, none⟩ = some (.pointer none)) (hsh : w.shape? b = some (70, 2)) (hfz : w.frozen? ⟨b, 0, none⟩ = false) :
    Calls Tryd.prog 42 #[.pointer (some ⟨b, 0, none⟩)] w fun e w' => e = .returned (.tuple #[]) ∧ w' = w.setCell ⟨b, 0, none⟩ (.pointer (some ⟨b, 0, none⟩)) := by
  obtain ⟨j, hj, hjs⟩ := Option.map_eq_some_iff.1 (show (Tryd.prog.info? 70).map (·.size) = some 2 by kernel_rfl)
  go_enter Tryd.func42, Tryd.ntmps42
  go_wp2
  rw [Lib.run_to_unsafe w ⟨b, 0, none⟩ Tryd.underlying68 Tryd.underlying91 hj (by rw [hjs]; decide) hsh (Nat.zero_lt_succ 1)]
  simp only [Result.andThen]
  rw [Oper.upon_value]
  go_wp2
  rw [run_callFunc_extern Tryd.func53 (by kernel_rfl) (by kernel_rfl) (by kernel_rfl) (e := Extern.AbiNoEscape.same) (by kernel_rfl)]
  rw [Lib.run_noEscape]
  simp only [Result.andThen]
  rw [Oper.upon_value]
  go_wp2
  rw [Lib.run_from_unsafe w ⟨b, 0, none⟩ Tryd.underlying91 Tryd.underlying68 hj hsh (show liesAt Tryd.prog Tryd.prog.depth 70 (2 / Tryd.prog.cellsOf 70) 0 70 1 = true by kernel_rfl)]
  simp only [Result.andThen]
  rw [Oper.upon_value]
  go_wp2
  go_end0
  exact ⟨rfl, rfl⟩
theorem copyCheck (B b : Nat) (bs : List Value) (w : World) (h : Lib.IsBuilder 70 5 B b bs w) :
    Calls Tryd.prog 42 #[.pointer (some ⟨b, 0, none⟩)] w fun e w' => e = .returned (.tuple #[]) ∧ (Lib.BuilderAt 70 5 B b (.pointer (some ⟨b, 0, none⟩)) bs w' ∧ Below B w w') := by
  rcases h with h | h
  · refine (copyCheck_fresh b w h.cell0 h.shape h.frozen0).mono ?_
    rintro e w' ⟨rfl, rfl⟩
    exact ⟨rfl, h.used _, (Below.refl B w).setCell (p := ⟨b, 0, none⟩) h.1 _⟩
  · refine (copyCheck_used b w h.cell0).mono ?_
    rintro e w' ⟨rfl, rfl⟩
    exact ⟨rfl, h, Below.refl B _⟩
set_option maxHeartbeats 2000000 in
set_option maxRecDepth 100000 in
theorem writeByte (B b : Nat) (bs : List Value) (c : Int) (w : World) (h : Lib.IsBuilder 70 5 B b bs w) (hlen : bs.length + 1 ≤ 140737488355328) (hBw : B ≤ w.heap.size) :
    Calls Tryd.prog 28 #[.pointer (some ⟨b, 0, none⟩), .int .u8 c] w fun e w' => e = .returned .nilIface ∧ (Lib.BuilderAt 70 5 B b (.pointer (some ⟨b, 0, none⟩)) (bs ++ [.int .u8 c]) w' ∧ Below B w w') := by
  obtain ⟨i0, hi, hz0, hz1, hz2⟩ := info_parts (show (Tryd.prog.info? 5).map (fun i => (i.zero, i.size, i.bytes)) = some (some (.int .u8 0), 1, 1) by kernel_rfl)
  go_enter Tryd.func28, Tryd.ntmps28
  go_wp2_with (go_at_call 42; refine (copyCheck B b bs _ h).mono ?_)
  rintro e w1 ⟨rfl, h1, hb1⟩
  obtain ⟨hB, v, hbk, hown, hne⟩ := h1
  have c0 : w1.cell? ⟨b, 0, none⟩ = some (.pointer (some ⟨b, 0, none⟩)) := by rw [Lib.cell_of_heap hbk]; rfl
  have c1 : w1.cell? ⟨b, 1, none⟩ = some v := by rw [Lib.cell_of_heap hbk]; rfl
  go_wp2_with (at_builtin; refine wpList_append_own _ rfl _ _ 27 rfl B 5 i0 (.int .u8 0) 1 1 Tryd.underlying27 hi hz0 hz1 hz2 rfl (by decide) _ _ _ rfl (hown.alloc _) ⟨w1.heap.size, 0, none⟩ 1 1 [.int .u8 c] rfl rfl ?c1 ?c2 ?c3 ?c4 ?c5 ?_)
  case c1 =>
    intro j u hj
    match j, hj with
    | 0, hj => simp at hj; subst hj; simp [Addr.add]
  case c2 => intro u hu; simp at hu; subst hu; rfl
  case c3 => unfold maxLen; omega
  case c4 => omega
  case c5 => have := hb1.size; simp; omega
  intro v' w2 hown' hgrow _
  have hlt : b < w1.heap.size := by
    rcases Nat.lt_or_ge b w1.heap.size with h' | h'
    · exact h'
    · simp [Array.getElem?_eq_none h'] at hbk
  have hb2 : w2.heap[b]? = some (.cells #[.pointer (some ⟨b, 0, none⟩), v] 70 (0, 0)) := by
    rw [hgrow.block b (by simp; omega) (fun e => hne e.symm), Lib.alloc_old w1 _ b hlt]
    exact hbk
  have d0 : w2.cell? ⟨b, 0, none⟩ = some (.pointer (some ⟨b, 0, none⟩)) := by rw [Lib.cell_of_heap hb2]; rfl
  have d1 : w2.cell? ⟨b, 1, none⟩ = some v := by rw [Lib.cell_of_heap hb2]; rfl
  have f1 : w2.frozen? ⟨b, 1, none⟩ = false := Lib.frozen_of_heap hb2 1
  obtain ⟨g, cap, rfl⟩ : ∃ g cap, v' = .slice (some ⟨g, 0, none⟩) (bs.length + 1) cap := by
    rcases hown'.2 with ⟨_, h0⟩ | ⟨g, cap, cur, hv, _⟩
    · omega
    · exact ⟨g, cap, hv⟩
  go_wp2
  go_ret
  refine ⟨rfl, ?_, ?_⟩
  · exact Lib.BuilderAt.put (T := 70) (e := 5) hB hb2 (bs' := bs ++ [.int .u8 c]) (by simpa using hown') (by decide)
  · exact ((hb1.alloc (by have := hb1.size; omega) _).grown hgrow (by have := hb1.size; simp; omega) (fun k hk => (hown.lt k hk).1)).setCell (p := ⟨b, 1, none⟩) hB _
end Go.Proofs.YtfabdnpeohpgnaaDoor
namespace Go.Proofs.YtfabdnpeohpgnaaDoor
set_option linter.all false
open Go.RowKit
section
variable {P : Program} {f : FuncId} {sp sp1 sp2 : Spec}
theorem FnOk.or (h1 : FnOk P f sp1) (h2 : FnOk P f sp2) (h : ∀ avs hp r, sp avs hp = some r → r.pre → (∃ r', sp1 avs hp = some r' ∧ r'.pre ∧ r'.v = r.v ∧ r'.hp = r.hp) ∨ (∃ r', sp2 avs hp = some r' ∧ r'.pre ∧ r'.v = r.v ∧ r'.hp = r.hp)) : FnOk P f sp := by
  intro avs hp r hs hp' w S ρ args H ha
  rcases h avs hp r hs hp' with ⟨r', k1, k2, k3, k4⟩ | ⟨r', k1, k2, k3, k4⟩
  · rw [← k3, ← k4]; exact h1 avs hp r' k1 k2 w S ρ args H ha
  · rw [← k3, ← k4]; exact h2 avs hp r' k1 k2 w S ρ args H ha
theorem FnOk.imp (h1 : FnOk P f sp1) (h : ∀ avs hp r, sp avs hp = some r → r.pre → ∃ r', sp1 avs hp = some r' ∧ r'.pre ∧ r'.v = r.v ∧ r'.hp = r.hp) : FnOk P f sp :=
  FnOk.or h1 h1 fun avs hp r hs hp' => .inl (h avs hp r hs hp')
def isOwn (ver : Nat) : AV → Bool
  | .own 0 v => v == ver
  | _ => false
theorem isOwn_eq {ver : Nat} {x : AV} (h : isOwn ver x = true) : x = .own 0 ver := by
  unfold isOwn at h
  split at h
  · rw [beq_iff_eq.1 h]
  · cases h
def fz1 (ver : Nat) (y x : AV) : AV := if isOwn ver x then y else x
def fzOk (ver : Nat) (x : AV) : Bool := isOwn ver x || (pureB 4 x && !(match x with | .tup _ => true | _ => false))
def fz (ver : Nat) (y : AV) : AV → AV
  | .tup l => .tup (l.map (fz1 ver y))
  | x => fz1 ver y x
def fzOkV (ver : Nat) : AV → Bool
  | .tup l => l.all (fzOk ver)
  | x => fzOk ver x
theorem FnOk.freeze (h : FnOk P f sp1) (hh : ∀ avs hp r', sp avs hp = some r' → r'.pre → hp = [] ∧ ∃ r e sz ver xs, sp1 avs [] = some r ∧ r.pre ∧ r.hp = [.row e sz ver xs] ∧ 0 < sz ∧ fzOkV ver r.v = true ∧ r'.v = fz ver (.sl sz xs) r.v ∧ r'.hp = []) : FnOk P f sp := by
  intro avs hp r' hs hp' w S ρ args H ha
  obtain ⟨rfl, r, e, sz, ver, xs, k1, k2, k3, k4, k5, k6, k7⟩ := hh avs hp r' hs hp'
  refine (h avs [] r k1 k2 w S ρ args H ha).mono ?_
  rintro e0 w' ⟨v, S', ρ', rfl, hv, H', hE, hS⟩
  rw [k3] at H'
  obtain ⟨L, us, o1, o2, o3, o4, o5, o6⟩ := H'.ob 0 _ rfl
  subst o3
  have hM := o4.mem o2 o5
  have hblk : (AObj.row e L.sz ver xs).blk ρ' 0 = ablk L.A := by simp [AObj.blk, o1]
  have hsl : ∀ w ρ, w = w' → Vl w (fun b => S' b ∨ ablk L.A = some b) ρ (.sl L.sz xs) (.slice L.A L.n L.c) := fun w ρ ew => by subst ew; exact hM.sl k4 (fun b hb => .inr hb) (fun b hb => .inl hb)
  have one : ∀ x u, fzOk ver x = true → Vl1 w' S' ρ' x u → Vl1 w' (fun b => S' b ∨ ablk L.A = some b) ρ (fz1 ver (.sl L.sz xs) x) u := by
    intro x u hx hu
    unfold fz1
    cases ho : isOwn ver x with
    | true =>
      have hx' := isOwn_eq ho
      subst hx'
      have hu' : Vl w' S' ρ' (.own 0 ver) u := hu
      obtain ⟨L', e1, rfl⟩ := hu'.own
      rw [o1] at e1; injection e1 with e1; subst e1
      exact hsl w' ρ rfl
    | false =>
      rw [if_neg (by simp)]
      unfold fzOk at hx
      rw [ho, Bool.false_or, Bool.and_eq_true] at hx
      rcases hu with hu | ⟨vs, hc, hu⟩
      · exact .inl hu
      · exact .inr ⟨vs, pureB_ok 4 (hc.ext (fun _ _ => rfl) (fun b hb => .inl hb) (fun _ _ _ h => h)) hx.1, hu⟩
  refine ⟨v, fun b => S' b ∨ ablk L.A = some b, ρ, rfl, ?_, ?_, ⟨hE.mem, fun b hb => .inl (hE.st b hb), fun _ _ _ h => h⟩, ?_⟩
  · rw [k6]
    cases hrv : r.v with
    | tup l =>
      rw [hrv] at hv k5
      obtain ⟨vs, e1, e2, e3⟩ := hv
      refine ⟨vs, e1, by simpa using e2, fun i hi => ?_⟩
      simp only [List.length_map] at hi
      have h1 := one (l.getD i .top) (vs.getD i undef) (by
        have := List.all_eq_true.1 k5 (l.getD i .top) (by rw [List.getD_eq_getElem?_getD, List.getElem?_eq_getElem hi]; exact List.getElem_mem _)
        exact this) (e3 i hi)
      have e4 : (l.map (fz1 ver (.sl L.sz xs))).getD i .top = fz1 ver (.sl L.sz xs) (l.getD i .top) := by
        rw [List.getD_eq_getElem?_getD, List.getElem?_map, List.getD_eq_getElem?_getD, List.getElem?_eq_getElem hi]; rfl
      rw [e4]; exact h1
    | _ =>
      rw [hrv] at hv k5
      have h1 := one _ v k5 (Vl.to1 (by intro xs; simp) hv)
      refine Vl.of1 (fun ys hy => ?_) h1
      simp only [fz, fz1] at hy
      split at hy <;> cases hy
  · rw [k7]
    refine ⟨H'.kept, fun id o ho => by simp at ho, fun i j x y _ hx => by simp at hx, fun id o ho => by simp at ho, fun b hb => ?_, fun id _ v => H.new id (Nat.zero_le _) v, fun id o ho => by simp at ho⟩
    rcases hb with hb | hb
    · exact H'.slt b hb
    · rcases o4.2 with ⟨z1, _, _⟩ | ⟨g, cur, fr, z1, z2, _⟩
      · rw [z1] at hb; cases hb
      · rw [z1] at hb
        have : g = b := by simpa [ablk] using hb
        subst this
        exact (Array.getElem?_eq_some_iff.1 z2).1
  · rintro b (hb | hb)
    · exact hS b hb
    · rcases H'.mine 0 _ rfl b (by rw [hblk]; exact hb) with h1 | h1
      · exact .inr (.inr h1)
      · exact .inr (.inl h1)
theorem fnok_row (h : ∀ avs hp r, sp avs hp = some r → r.pre → hp = [] ∧ ∃ e sz xs, r.v = .own 0 0 ∧ r.hp = [.row e sz 0 xs] ∧ ∀ (w : World) (S : Nat → Prop) (ρ : Rho) (args : List Value), (∀ b, S b → b < w.heap.size) → ArgsOk w S ρ avs args →
    Calls P f args.toArray w fun e' w' => ∃ g n c us cur fr, e' = .returned (.slice (some ⟨g, 0, none⟩) n c) ∧ Below w.heap.size w w' ∧ w.heap.size ≤ g ∧ w'.heap[g]? = some (.cells cur e fr) ∧ Mk fr cur.size ∧ n ≤ c ∧ c ≤ 9223372036854775807 ∧ cur.size = c * sz ∧ cur.toList.take (n * sz) = us ∧
      us.length = n * sz ∧ n = xs.length ∧ Css w' (fun _ => False) rho0 (prs sz xs) us) : FnOk P f sp := by
  intro avs hp r hs hp' w S ρ args H ha
  obtain ⟨rfl, e, sz, xs, k1, k2, hc⟩ := h avs hp r hs hp'
  refine (hc w S ρ args H.slt ha).mono ?_
  rintro e' w' ⟨g, n, c, us, cur, fr, rfl, hb, hg, m1, m2, m3, m4, m5, m6, m7, m8, m9⟩
  have hn : ∀ u, ρ 0 u = none := fun u => H.new 0 (Nat.zero_le _) u
  obtain ⟨H', hE⟩ := H.push (w' := w') (S' := S) (ρ' := rset ρ 0 0 ⟨some ⟨g, 0, none⟩, c, n, sz⟩) (o' := .row e sz 0 xs) hb (fun _ h => h) (fun _ h => .inl h)
    (fun i v L hL => by
      unfold rset
      by_cases hi : i = 0 ∧ v = 0
      · obtain ⟨rfl, rfl⟩ := hi; rw [hn] at hL; cases hL
      · rw [if_neg hi]; exact hL)
    (fun i v hi => by unfold rset; rw [if_neg (by intro hh; exact hi hh.1)])
    ⟨⟨some ⟨g, 0, none⟩, c, n, sz⟩, us, by simp [rset], m8, rfl, ⟨m7, .inr ⟨g, cur, fr, rfl, m1, m2, m3, m4, m5, m6⟩⟩, m9.ext ⟨fun b hb => hb.elim, fun b hb => hb.elim, fun _ _ _ h => h⟩, fun b hb hS => by
      have : g = b := by simpa [ablk] using hb
      subst this
      have := H.slt _ hS; omega⟩
    (fun v hv => by
      have hv0 : 0 < v := hv
      show rset ρ 0 0 _ 0 v = none
      unfold rset; rw [if_neg (by intro hh; omega)]; exact hn v)
    (fun b hb => by
      have hb' : ((rset ρ 0 0 ⟨some ⟨g, 0, none⟩, c, n, sz⟩ 0 0).bind fun L => ablk L.A) = some b := hb
      have : g = b := by simpa [rset, ablk] using hb'
      omega)
  refine ⟨_, S, _, rfl, ?_, by rw [k2]; exact H', hE, fun b h => .inl h⟩
  rw [k1]
  exact .inr ⟨_, .own 0 0 ⟨some ⟨g, 0, none⟩, c, n, sz⟩ (by simp [rset]), rfl⟩
end
section
variable {P : Program} {f : FuncId} {sp : Spec}
end
theorem loop2P {Φ : Phi} {m : Nat} {c : ACode} {Q : Exit → S2 → Prop} {s : S2} {α : Type} (nils : List (Nat × TypeId × Nat)) (sl ids : List Nat) (st : α → St) (Inv : α → Prop) (μ : α → Nat) (a0 : α) (hk : ent nils sl ids (toS s) = some (st a0)) (h0 : Inv a0) (hm : nodupB ids = true ∧ ids.take m = List.range m)
    (h : ∀ a, Inv a → ∀ R : S2 → Prop, (∀ s' a', Inv a' → μ a' < μ a → kp sl ids.length (toS s') = some (st a') → R s') → awp2 Φ m c (thenQ2 R Q) (ofS (st a))) : loopQ2 m (awp2 Φ m c) Q s :=
  loop2 nils sl ids st Inv μ a0 hk h0 hm fun a ha => h a ha _ fun _ a' h1 h2 h3 => ⟨a', h1, h2, h3⟩
end Go.Proofs.YtfabdnpeohpgnaaDoor
namespace Go.Proofs.YtfabdnpeohpgnaaDoor
set_option linter.all false
open Go.RowKit
def selfX : AV → Bool
  | .con (.pointer none) => true
  | .ref 0 0 0 => true
  | _ => false
theorem selfX_or {X : AV} (h : selfX X = true) : X = .con (.pointer none) ∨ X = .ref 0 0 0 := by
  unfold selfX at h
  split at h
  · exact .inl rfl
  · exact .inr rfl
  · cases h
def copyCheckS : Spec := fun xs hp => match xs, hp with
  | [.ref 0 0 0], .cells T [(1, X), (1, Y)] :: rest => if selfX X = true then some ⟨.tup [], .cells T [(1, .ref 0 0 0), (1, Y)] :: rest, T = 70⟩ else none
  | _, _ => none
theorem css_two {w : World} {S : Nat → Prop} {ρ : Rho} {X Y : AV} {us : List Value} (h : Css w S ρ [(1, X), (1, Y)] us) : ∃ x y, us = [x, y] ∧ Cs w S ρ X [x] ∧ Cs w S ρ Y [y] := by
  obtain ⟨u1, u2, rfl, h1, h2, u3, u4, rfl, h3, h4, rfl⟩ := h
  match u1, h1, u3, h3 with
  | [x], _, [y], _ => exact ⟨x, y, rfl, h2, h4⟩
theorem copyCheckA_ok : FnOk Tryd.prog 42 copyCheckS := by
  intro xs0 hp r hs hp' w S ρ args H ha
  unfold copyCheckS at hs
  split at hs
  · rename_i T X Y rest
    split at hs
    · rename_i hX
      injection hs with hs; subst hs
      have hT : T = 70 := hp'
      subst hT
      obtain ⟨v, vs, rfl, hv, hr⟩ := ha.get _ _ rfl
      obtain rfl := hr.none
      obtain ⟨g, L, h1, h2, rfl⟩ := hv.ref
      obtain ⟨g', us, k1, k2, k3, k4⟩ := H.ob 0 _ rfl
      rw [h1] at k1; injection k1 with k1; subst k1
      injection h2 with h2; injection h2 with h2; subst h2
      obtain ⟨x, y, rfl, c1, c2⟩ := css_two k3
      have hlt : g' < w.heap.size := (Array.getElem?_eq_some_iff.1 k2).1
      rcases selfX_or hX with rfl | rfl
      · cases c1
        refine (copyCheck_fresh g' w (by simp [World.cell?, k2]) (by simp [World.shape?, k2]) (by simp [World.frozen?, k2])).mono ?_
        rintro e w' ⟨rfl, rfl⟩
        obtain ⟨s1, s2⟩ := setCells_row g' 70 (0, 0) [.pointer (some ⟨g', 0, none⟩)] 0 w _ k2 (by simp)
        have e1 : w.setCells g' 0 [.pointer (some ⟨g', 0, none⟩)] = w.setCell ⟨g', 0, none⟩ (.pointer (some ⟨g', 0, none⟩)) := rfl
        rw [e1] at s1 s2
        have hblk : (AObj.cells 70 [(1, .con (.pointer none)), (1, Y)]).blk ρ 0 = some g' := by simp [AObj.blk, h1, ablk]
        have hE : Ext w (w.setCell ⟨g', 0, none⟩ (.pointer (some ⟨g', 0, none⟩))) S S ρ ρ := ⟨fun b hb => s2.block b (H.slt b hb) (fun e => by injection e with e; subst e; exact k4 hb), fun _ h => h, fun _ _ _ h => h⟩
        obtain ⟨H', hE'⟩ := H.upd (id := 0) (S' := S) (ρ' := ρ) (o' := .cells 70 [(1, .ref 0 0 0), (1, Y)]) rfl (by rw [hblk]; exact s2) (fun _ h => h) (fun _ h => .inl h) (fun _ _ _ h => h) (fun _ _ _ => rfl)
          ⟨g', [.pointer (some ⟨g', 0, none⟩), y], h1, by simpa using s1, ⟨[_], [y], rfl, rfl, .ref 0 0 0 g' _ h1 rfl, [y], [], rfl, rfl, c2.ext hE.mem hE.st hE.loc, rfl⟩, k4⟩ (fun v hv => H.vers 0 _ rfl v hv) (fun b hb => .inl (by simpa [AObj.blk] using hb))
        exact ⟨_, S, ρ, rfl, ⟨[], rfl, rfl, fun i hi => by simp at hi⟩, H', hE', fun b hb => .inl hb⟩
      · cases c1 with
        | ref _ _ _ g2 L2 q1 q2 =>
        rw [h1] at q1; injection q1 with q1; subst q1
        injection q2 with q2; injection q2 with q2; subst q2
        refine (copyCheck_used g' w (by simp [World.cell?, k2])).mono ?_
        rintro e w' ⟨rfl, rfl⟩
        exact ⟨_, S, ρ, rfl, ⟨[], rfl, rfl, fun i hi => by simp at hi⟩, H, Ext.refl _ _ _, fun b hb => .inl hb⟩
    · cases hs
  · cases hs
def c_bws : ACode := (.seq (.reg none [⟨(some 4), (.mv (.c (.int .i64 0))), none⟩, ⟨(some 5), (.mv (.c (.con .nilIface))), none⟩]) (.seq (.reg none [⟨(some 6), (.mv (.t 0)), none⟩, ⟨(some 7), (.call 42 [(.t 6)]), none⟩]) (.seq (.reg none [⟨(some 8), (.mv (.t 0)), none⟩, ⟨(some 9), (.mv (.t 0)), none⟩, ⟨(some 10), (.nck (.t 9)), none⟩, ⟨(some 11), (.fa 1 (.t 10)), none⟩, ⟨(some 12), (.ld (.one (.con (.slice none 0 0))) (.t 11)), none⟩, ⟨(some 13), (.mv (.t 1)), none⟩, ⟨(some 14), (.appS 5 (.t 12) (.t 13)), none⟩, ⟨(some 15), (.nck (.t 8)), none⟩, ⟨(some 16), (.fa 1 (.t 15)), none⟩, ⟨none, (.st (.one (.con (.slice none 0 0))) (.t 16) (.t 14)), none⟩]) (.seq (.reg none [⟨(some 17), (.mv (.t 1)), none⟩, ⟨(some 18), (.len none true (.t 17)), none⟩, ⟨(some 4), (.mv (.t 18)), none⟩, ⟨(some 5), (.mv (.c (.con .nilIface))), none⟩]) .ret))))
def r_bws : List ARes := [(.t 4), (.t 5)]
theorem s_bws : slimF Tryd.prog Tryd.f27 = some (c_bws, r_bws) := by kernel_rfl
def bwsS : Spec := fun xs hp => match xs, hp with
  | [.ref 0 0 0, .str s], [.cells T [(1, X), (1, .con (.slice none 0 0))]] => if selfX X = true then some ⟨.tup [.int .i64 (s.length : Int), .con .nilIface], [.cells T [(1, .ref 0 0 0), (1, .own 1 0)], .row 5 1 0 (Bs s)], T = 70 ∧ bytesOk s.length⟩ else none
  | [.ref 0 0 0, .str s], [.cells T [(1, X), (1, .own 1 v)], .row e 1 v' bs] => if selfX X = true ∧ v = v' ∧ e = 5 then some ⟨.tup [.int .i64 (s.length : Int), .con .nilIface], [.cells T [(1, .ref 0 0 0), (1, .own 1 (v + 1))], .row 5 1 (v + 1) (bs ++ Bs s)], T = 70 ∧ bytesOk (bs.length + s.length)⟩ else none
  | _, _ => none
theorem bws_ok : FnOk Tryd.prog 27 bwsS := by
  refine fn_slim2 Tryd.func27 s_bws (Φ := phiL [(42, [], copyCheckS)]) (phi_cons copyCheckA_ok (by kernel_rfl) phi_nil) ?_
  intro xs hp r hs hp'
  unfold bwsS at hs
  split at hs
  · rename_i s T X
    split at hs
    · rename_i hX
      injection hs with hs; subst hs
      obtain ⟨rfl, p2⟩ := hp'
      refine ⟨len_le (by kernel_rfl), ?_⟩
      unfold bytesOk at p2
      rcases selfX_or hX with rfl | rfl
      · simp only [c_bws, r_bws, copyCheckS, hX, go_sem, Nat.reduceDiv, Nat.reduceMod, ↓reduceIte, Nat.reduceEqDiff, Nat.reduceBEq, Nat.reduceSub, Nat.reduceLT, Nat.reduceAdd, Nat.reduceLeDiff, reduceCtorEq, Int.reduceEq, Int.reduceNe, Int.reduceLT, Int.reduceLE, Int.reduceToNat]
        exact ⟨by unfold lenOk; omega, p2⟩
      · simp only [c_bws, r_bws, copyCheckS, hX, go_sem, Nat.reduceDiv, Nat.reduceMod, ↓reduceIte, Nat.reduceEqDiff, Nat.reduceBEq, Nat.reduceSub, Nat.reduceLT, Nat.reduceAdd, Nat.reduceLeDiff, reduceCtorEq, Int.reduceEq, Int.reduceNe, Int.reduceLT, Int.reduceLE, Int.reduceToNat]
        exact ⟨by unfold lenOk; omega, p2⟩
    · cases hs
  · rename_i s T X v e v' bs
    split at hs
    · rename_i hX
      obtain ⟨hX, rfl, rfl⟩ := hX
      injection hs with hs; subst hs
      obtain ⟨rfl, p2⟩ := hp'
      refine ⟨len_le (by kernel_rfl), ?_⟩
      unfold bytesOk at p2
      rcases selfX_or hX with rfl | rfl
      · simp only [c_bws, r_bws, copyCheckS, hX, List.length_append, Bs_len, go_sem, Nat.reduceDiv, Nat.reduceMod, ↓reduceIte, Nat.reduceEqDiff, Nat.reduceBEq, Nat.reduceSub, Nat.reduceLT, Nat.reduceAdd, Nat.reduceLeDiff, reduceCtorEq, Int.reduceEq, Int.reduceNe, Int.reduceLT, Int.reduceLE, Int.reduceToNat]
        exact ⟨by unfold lenOk; omega, p2⟩
      · simp only [c_bws, r_bws, copyCheckS, hX, List.length_append, Bs_len, go_sem, Nat.reduceDiv, Nat.reduceMod, ↓reduceIte, Nat.reduceEqDiff, Nat.reduceBEq, Nat.reduceSub, Nat.reduceLT, Nat.reduceAdd, Nat.reduceLeDiff, reduceCtorEq, Int.reduceEq, Int.reduceNe, Int.reduceLT, Int.reduceLE, Int.reduceToNat]
        exact ⟨by unfold lenOk; omega, p2⟩
    · cases hs
  · cases hs
set_option maxHeartbeats 1000000 in
set_option maxRecDepth 100000 in
theorem bstr_some (b g cap : Nat) (p : Value) (cur : Array Value) (fr : Nat × Nat) (l : List UInt8) (w : World) (h0 : l ≠ []) (hbk : w.heap[b]? = some (.cells #[p, .slice (some ⟨g, 0, none⟩) l.length cap] 70 (0, 0))) (hg : w.heap[g]? = some (.cells cur 5 fr))
    (hnc : l.length ≤ cap) (hcm : cap ≤ 9223372036854775807) (hcs : cur.size = cap) (htake : cur.toList.take l.length = l.map U) :
    Calls Tryd.prog 29 #[.pointer (some ⟨b, 0, none⟩)] w fun e w' => e = .returned (.string ⟨l.toArray⟩) ∧ w' = w.drew.freeze ⟨g, 0, none⟩ l.length := by
  have hl0 : l.length ≠ 0 := by simpa using h0
  have c1 : w.drew.cell? ⟨b, 1, none⟩ = some (.slice (some ⟨g, 0, none⟩) l.length cap) := by
    have : w.drew.heap[b]? = some (.cells #[p, .slice (some ⟨g, 0, none⟩) l.length cap] 70 (0, 0)) := hbk
    rw [Lib.cell_of_heap this]; rfl
  have hSD : (Builtin.unsafeSliceData_ #[27] 86 #[.slice (some ⟨g, 0, none⟩) l.length cap]).run Tryd.prog w.drew = .ok (.pointer (some ⟨g, 0, none⟩)) w.drew :=
    Lib.run_unsafeSliceData_row _ _ _ _ _ _ (by omega)
  have hUS : (Builtin.unsafeString_ #[86, 3] 9 #[.pointer (some ⟨g, 0, none⟩), .int .i64 l.length]).run Tryd.prog w.drew = .ok (.string ⟨l.toArray⟩) (w.drew.freeze ⟨g, 0, none⟩ l.length) := by
    refine Lib.run_unsafeString_row w.drew 86 3 9 5 Tryd.underlying86 (by kernel_rfl) g cur.size (by have hg' : w.drew.heap[g]? = some (.cells cur 5 fr) := hg; simp [World.shape?, hg']) l h0 (by omega) (by omega) ?_
    intro j x hx
    have hg' : w.drew.heap[g]? = some (.cells cur 5 fr) := hg
    rw [add_spot, Nat.zero_add, Lib.cell_of_heap hg']
    have h1 := congrArg (fun z => z[j]?) htake
    have hj : j < l.length := (List.getElem?_eq_some_iff.1 hx).1
    simp only [List.getElem?_take, if_pos hj, List.getElem?_map, hx, Option.map_some] at h1
    rw [← Array.getElem?_toList]; exact h1
  have mixed : Tryd.prog.follows .mixedOrders = true := by kernel_rfl
  go_enter Tryd.func29, Tryd.ntmps29
  go_wp2
  go_region_o
  all_goals (go_wp2; go_ret; exact ⟨rfl, rfl⟩)
set_option maxHeartbeats 2000000 in
set_option maxRecDepth 100000 in
theorem bstr_nil (b : Nat) (p : Value) (w : World) (hbk : w.heap[b]? = some (.cells #[p, .slice none 0 0] 70 (0, 0))) :
    Calls Tryd.prog 29 #[.pointer (some ⟨b, 0, none⟩)] w fun e w' => e = .returned (.string ⟨#[]⟩) ∧ Below w.heap.size w w' := by
  have c1 : w.drew.cell? ⟨b, 1, none⟩ = some (.slice none 0 0) := by
    have : w.drew.heap[b]? = some (.cells #[p, .slice none 0 0] 70 (0, 0)) := hbk
    rw [Lib.cell_of_heap this]; rfl
  have hSD : (Builtin.unsafeSliceData_ #[27] 86 #[.slice none 0 0]).run Tryd.prog w.drew = .ok (.pointer none) w.drew := rfl
  have mixed : Tryd.prog.follows .mixedOrders = true := by kernel_rfl
  have hUS := fun (W : World) (q : Option Addr) => Lib.run_unsafeString_none (P := Tryd.prog) W 86 3 9 q
  go_enter Tryd.func29, Tryd.ntmps29
  go_wp2
  go_region_o
  all_goals (go_wp2; go_ret; exact ⟨rfl, Below.drew (Below.refl _ w)⟩)
set_option maxHeartbeats 2000000 in
set_option maxRecDepth 100000 in
theorem bstr_room (b g cap : Nat) (p : Value) (w : World) (hc0 : cap ≠ 0) (hbk : w.heap[b]? = some (.cells #[p, .slice (some ⟨g, 0, none⟩) 0 cap] 70 (0, 0))) :
    Calls Tryd.prog 29 #[.pointer (some ⟨b, 0, none⟩)] w fun e w' => e = .returned (.string ⟨#[]⟩) ∧ Below w.heap.size w w' := by
  have c1 : w.drew.cell? ⟨b, 1, none⟩ = some (.slice (some ⟨g, 0, none⟩) 0 cap) := by
    have : w.drew.heap[b]? = some (.cells #[p, .slice (some ⟨g, 0, none⟩) 0 cap] 70 (0, 0)) := hbk
    rw [Lib.cell_of_heap this]; rfl
  have hSD : (Builtin.unsafeSliceData_ #[27] 86 #[.slice (some ⟨g, 0, none⟩) 0 cap]).run Tryd.prog w.drew = .ok (.pointer (some ⟨g, 0, none⟩)) w.drew :=
    Lib.run_unsafeSliceData_row _ _ _ _ _ _ hc0
  clear hc0
  have mixed : Tryd.prog.follows .mixedOrders = true := by kernel_rfl
  have hUS := fun (W : World) (q : Option Addr) => Lib.run_unsafeString_none (P := Tryd.prog) W 86 3 9 q
  go_enter Tryd.func29, Tryd.ntmps29
  go_wp2
  go_region_o
  all_goals (go_wp2; go_ret; exact ⟨rfl, Below.drew (Below.refl _ w)⟩)
set_option maxHeartbeats 2000000 in
set_option maxRecDepth 100000 in
theorem bstr_noroom (b g : Nat) (p : Value) (cur : Array Value) (fr : Nat × Nat) (w : World) (hbk : w.heap[b]? = some (.cells #[p, .slice (some ⟨g, 0, none⟩) 0 0] 70 (0, 0))) (hg : w.heap[g]? = some (.cells cur 5 fr)) :
    Calls Tryd.prog 29 #[.pointer (some ⟨b, 0, none⟩)] w fun e w' => e = .returned (.string ⟨#[]⟩) ∧ Below w.heap.size w w' := by
  have hlt : b < w.heap.size := (Array.getElem?_eq_some_iff.1 hbk).1
  have c1 : w.drew.cell? ⟨b, 1, none⟩ = some (.slice (some ⟨g, 0, none⟩) 0 0) := by
    have : w.drew.heap[b]? = some (.cells #[p, .slice (some ⟨g, 0, none⟩) 0 0] 70 (0, 0)) := hbk
    rw [Lib.cell_of_heap this]; rfl
  have hSD : (Builtin.unsafeSliceData_ #[27] 86 #[.slice (some ⟨g, 0, none⟩) 0 0]).run Tryd.prog w.drew = .ok (.pointer (some ⟨w.drew.heap.size, 0, none⟩)) (w.drew.alloc (.view ⟨g, 0, none⟩ 5)) :=
    Lib.run_unsafeSliceData_zero w.drew _ _ 5 Tryd.underlying86 ⟨g, 0, none⟩ 0 (5, cur.size) (by have hg' : w.drew.heap[g]? = some (.cells cur 5 fr) := hg; simp [World.shape?, hg'])
  have c2 : (w.drew.alloc (.view ⟨g, 0, none⟩ 5)).cell? ⟨b, 1, none⟩ = some (.slice (some ⟨g, 0, none⟩) 0 0) := by
    have : (w.drew.alloc (.view ⟨g, 0, none⟩ 5)).heap[b]? = _ := (Lib.alloc_old w.drew _ b hlt).trans hbk
    rw [Lib.cell_of_heap this]; rfl
  have c3 : (w.alloc (.view ⟨g, 0, none⟩ 5)).drew.cell? ⟨b, 1, none⟩ = some (.slice (some ⟨g, 0, none⟩) 0 0) := c2
  have c0 : w.cell? ⟨b, 1, none⟩ = some (.slice (some ⟨g, 0, none⟩) 0 0) := c1
  have mixed : Tryd.prog.follows .mixedOrders = true := by kernel_rfl
  have hUS := fun (W : World) (q : Option Addr) => Lib.run_unsafeString_none (P := Tryd.prog) W 86 3 9 q
  go_enter Tryd.func29, Tryd.ntmps29
  go_wp2
  go_region_o
  all_goals (go_wp2; go_ret; exact ⟨rfl, (Below.drew (Below.refl _ w)).alloc (Nat.le_refl _) _⟩)
def bstrS : Spec := fun xs hp => match xs, hp with
  | [.ref 0 0 0], [.cells T [(1, X), (1, .con (.slice none 0 0))]] => some ⟨.str [], [.cells T [(1, X), (1, .con (.slice none 0 0))]], T = 70⟩
  | [.ref 0 0 0], [.cells T [(1, X), (1, .own 1 v)], .row e 1 v' bs] => if v = v' ∧ e = 5 then some ⟨.str (unB bs), [.cells T [(1, X), (1, .own 1 v)], .froz 1 v bs], T = 70 ∧ bs = Bs (unB bs)⟩ else none
  | _, _ => none
theorem bstr_ok : FnOk Tryd.prog 29 bstrS := by
  intro xs0 hp r hs hp' w S ρ args H ha
  unfold bstrS at hs
  split at hs
  · rename_i T X
    injection hs with hs; subst hs
    have hT : T = 70 := hp'
    subst hT
    obtain ⟨v, vs, rfl, hv, hr⟩ := ha.get _ _ rfl
    obtain rfl := hr.none
    obtain ⟨g, L, h1, h2, rfl⟩ := hv.ref
    obtain ⟨g', us, k1, k2, k3, k4⟩ := H.ob 0 _ rfl
    rw [h1] at k1; injection k1 with k1; subst k1
    injection h2 with h2; injection h2 with h2; subst h2
    obtain ⟨x, y, rfl, c1, c2⟩ := css_two k3
    cases c2
    refine (bstr_nil g' x w k2).mono ?_
    rintro e w' ⟨rfl, hb⟩
    obtain ⟨H', hE⟩ := H.same (w' := w') (S' := S) hb (fun _ h => h) (fun _ h => .inl h)
    exact ⟨_, S, ρ, rfl, Vl.str' _, H', hE, fun b hb => .inl hb⟩
  · rename_i T X v e v' bs
    split at hs
    · rename_i hc
      obtain ⟨rfl, rfl⟩ := hc
      injection hs with hs; subst hs
      obtain ⟨rfl, p2⟩ := hp'
      generalize hl : unB bs = l at *
      subst p2
      obtain ⟨u, vs, rfl, hv, hr⟩ := ha.get _ _ rfl
      obtain rfl := hr.none
      obtain ⟨g, L, h1, h2, rfl⟩ := hv.ref
      obtain ⟨g', us, k1, k2, k3, k4⟩ := H.ob 0 _ rfl
      rw [h1] at k1; injection k1 with k1; subst k1
      injection h2 with h2; injection h2 with h2; subst h2
      obtain ⟨x, y, rfl, c1, c2⟩ := css_two k3
      cases c2 with
      | own _ _ L1 q1 =>
      obtain ⟨L', ws, o1, o2, o3, o4, o5, o6⟩ := H.ob 1 _ rfl
      rw [q1] at o1; injection o1 with o1; subst o1
      rw [Bs_len] at o2
      have hws : ws = l.map U := css_bytes_eq o5
      have hone : L1.sz = 1 := o3
      obtain ⟨r1, r2⟩ := o4
      have vx : ∀ (w' : World) (S' : Nat → Prop), Ext w w' S S' ρ ρ → Vl w' S' ρ (.str l) (.string ⟨l.toArray⟩) := fun _ _ _ => Vl.str' _
      by_cases h0 : l = []
      · subst h0
        have hn0 : L1.n = 0 := o2
        have fin : ∀ w', Below w.heap.size w w' → ∃ u S' ρ', Ending.returned (.string ⟨#[]⟩) = Ending.returned u ∧ Vl w' S' ρ' (.str []) u ∧ HeapOk (Lent ρ [.cells 70 [(1, X), (1, .own 1 v)], .row 5 1 v (Bs [])]) w S' ρ' [.cells 70 [(1, X), (1, .own 1 v)], .froz 1 v (Bs [])] w' ∧ Ext w w' S S' ρ ρ' ∧ (∀ b, S' b → S b ∨ w.heap.size ≤ b ∨ Lent ρ [.cells 70 [(1, X), (1, .own 1 v)], .row 5 1 v (Bs [])] b) := by
          intro w' hb
          obtain ⟨H1, hE1⟩ := H.same (w' := w') (S' := S) hb (fun _ h => h) (fun _ h => .inl h)
          have hc : L1.c ≤ 9223372036854775807 := by
            rcases r2 with ⟨_, _, h⟩ | ⟨_, _, _, _, _, _, _, h, _⟩ <;> omega
          obtain ⟨H2, hE2⟩ := H1.upd (id := 1) (w' := w') (S' := S) (ρ' := ρ) (o' := .froz 1 v (Bs [])) rfl (World.grownBy.refl w' _) (fun _ h => h) (fun _ h => .inl h) (fun _ _ _ h => h) (fun _ _ _ => rfl)
            ⟨L1, q1, o2, o3, by rw [hn0]; exact .sl0 1 _ _ hc⟩ (fun u hu => H.vers 1 _ rfl u hu) (fun b hb => by cases hb)
          exact ⟨_, S, ρ, rfl, Vl.str' _, H2, hE1.trans hE2, fun b hb => .inl hb⟩
        rcases r2 with ⟨z1, z2, z3⟩ | ⟨g, cur, fr, z1, z2, z3, z4, z5, z6, z7⟩
        · rw [z1, z2, z3] at k2
          refine (bstr_nil g' x w k2).mono ?_
          rintro e w' ⟨rfl, hb⟩
          exact fin w' hb
        · rw [z1, hn0] at k2
          by_cases hc0 : L1.c = 0
          · rw [hc0] at k2
            refine (bstr_noroom g' g x cur fr w k2 z2).mono ?_
            rintro e w' ⟨rfl, hb⟩
            exact fin w' hb
          · refine (bstr_room g' g L1.c x w hc0 k2).mono ?_
            rintro e w' ⟨rfl, hb⟩
            exact fin w' hb
      · have hl0 : l.length ≠ 0 := by simpa using h0
        rcases r2 with ⟨z1, z2, z3⟩ | ⟨g, cur, fr, z1, z2, z3, z4, z5, z6, z7⟩
        · omega
        · rw [hone, Nat.mul_one] at z6 z7
          rw [z1, o2] at k2
          rw [o2] at z4 z7
          refine (bstr_some g' g L1.c x cur fr l w h0 k2 z2 z4 z5 z6 (by rw [z7, hws])).mono ?_
          rintro e w' ⟨rfl, rfl⟩
          have hgl : g < w.heap.size := (Array.getElem?_eq_some_iff.1 z2).1
          obtain ⟨fr', hfz⟩ : ∃ fr', (w.drew.freeze ⟨g, 0, none⟩ l.length).heap = w.heap.modify g fun o => if o matches .cells _ _ _ then .cells cur 5 fr' else o := by
            obtain ⟨lo, hi⟩ := fr
            refine ⟨if lo == hi then (0, l.length) else (min lo 0, max hi l.length), ?_⟩
            have hg := (Array.getElem?_eq_some_iff.1 z2)
            obtain ⟨hg1, hg2⟩ := hg
            unfold World.freeze
            rw [if_neg (by simpa using hl0)]
            simp only
            show Array.modify w.heap g _ = _
            apply Array.ext
            · simp
            · intro i h1 h2
              simp only [Array.getElem_modify]
              by_cases hgi : g = i
              · subst hgi; simp only [if_true, hg2, Nat.zero_add]
              · simp only [if_neg hgi]
          generalize hW : w.drew.freeze ⟨g, 0, none⟩ l.length = W at *
          have hgb : w.grownBy W (some g) := by
            rw [← hW]
            refine ⟨by unfold World.freeze; split <;> rfl, by unfold World.freeze; split <;> rfl, by unfold World.freeze; split <;> rfl, by rw [hW, hfz]; simp, fun k hk hne => ?_⟩
            rw [hW, hfz, Array.getElem?_modify, if_neg (fun e => hne (by rw [e]))]
          have hw' : W.heap[g]? = some (.cells cur 5 fr') := by
            rw [hfz, Array.getElem?_modify, if_pos rfl, z2]; rfl
          have hblk : (AObj.row 5 1 v (Bs l)).blk ρ 1 = some g := by simp [AObj.blk, q1, ablk, z1]
          obtain ⟨H2, hE2⟩ := H.upd (id := 1) (w' := W) (S' := fun b => S b ∨ b = g) (ρ' := ρ) (o' := .froz 1 v (Bs l)) rfl (by rw [hblk]; exact hgb) (fun _ h => .inl h) (fun b h => h.elim .inl fun h => .inr (.inr (by rw [hblk, h]))) (fun _ _ _ h => h) (fun _ _ _ => rfl)
            ⟨L1, q1, by rw [Bs_len]; exact o2, o3, by
              rw [z1, o2, show (l.length : Nat) = (Bs l).length by rw [Bs_len]]
              refine .sl 1 (Bs l) (l.map U) g 0 L1.c (.inr rfl) (css_bytes l).cs (by simp [Bs_len]) (fun j hj => ?_) (by rw [Bs_len]; exact z4) z5
              rw [cell_of_row W g _ cur _ fr' hw', Nat.zero_add, ← hws, ← z7, List.getElem?_take, if_pos (by simpa using hj), Array.getElem?_toList]⟩ (fun u hu => H.vers 1 _ rfl u hu) (fun b hb => by cases hb)
          exact ⟨_, _, ρ, rfl, Vl.str' _, H2, hE2, fun b hb => hb.elim .inl fun h => .inr (.inr ⟨1, _, rfl, by rw [hblk, h]⟩)⟩
    · cases hs
  · cases hs
end Go.Proofs.YtfabdnpeohpgnaaDoor
namespace Go.Proofs.YtfabdnpeohpgnaaDoor
set_option linter.all false
open Go.RowKit
set_option maxHeartbeats 2000000 in
set_option maxRecDepth 1000000 in
theorem bgrow_walk (b n : Nat) (w : World) (hbk : w.heap[b]? = some (.cells #[.pointer (some ⟨b, 0, none⟩), .slice none 0 0] 70 (0, 0))) (hn : n ≤ 281474976710656) :
    Calls Tryd.prog 43 #[.pointer (some ⟨b, 0, none⟩), .int .i64 n] w fun e w' => e = .returned (.tuple #[]) ∧ ∃ (cs : Array Value), cs.size ≤ 9223372036854775807 ∧ w' = ((w.setCell ⟨b, 1, none⟩ (.slice (some ⟨w.heap.size, 0, none⟩) 0 cs.size)).alloc (.cells cs 5)).drew.drew.drew := by
  obtain ⟨cs, hrun, hle, hmax⟩ := Lib.run_makeNoZero (P := Tryd.prog) w.drew #[3] 27 5 Tryd.underlying27 n hn
  have hw : IntKind.i64.wrap (IntKind.i64.wrap 0 + (n : Int)) = n := by
    rw [IntKind.wrap_i64, IntKind.wrap_i64]
    omega
  have hcall : (callFunc 54 #[.int .i64 (IntKind.i64.wrap (IntKind.i64.wrap 0 + (n : Int)))]).run Tryd.prog w.drew = .ok (.value (.slice (some ⟨w.drew.heap.size, 0, none⟩) n cs.size)) (w.drew.drew.drew.alloc (.cells cs 5)) := by
    rw [hw, run_callFunc_extern Tryd.func54 (by kernel_rfl) (by kernel_rfl) (by kernel_rfl) (e := Extern.BytealgMakeNoZero.makeNoZero #[3] #[27]) (by kernel_rfl), hrun]
    rfl
  have hlt : b < w.heap.size := by
    rcases Nat.lt_or_ge b w.heap.size with h' | h'
    · exact h'
    · simp [Array.getElem?_eq_none h'] at hbk
  have c1 : w.drew.cell? ⟨b, 1, none⟩ = some (.slice none 0 0) := by
    have : w.drew.heap[b]? = _ := hbk
    rw [Lib.cell_of_heap this]; rfl
  have c2 : (w.alloc (.cells cs 5)).cell? ⟨b, 1, none⟩ = some (.slice none 0 0) := by
    have : (w.alloc (.cells cs 5)).heap[b]? = _ := (Lib.alloc_old w _ b hlt).trans hbk
    rw [Lib.cell_of_heap this]; rfl
  have f2 : (w.alloc (.cells cs 5)).frozen? ⟨b, 1, none⟩ = false := Lib.frozen_of_heap ((Lib.alloc_old w _ b hlt).trans hbk) 1
  have hcopy : ∀ W : World, (Builtin.copy_ #[27, 27] 3 #[.slice (some ⟨w.heap.size, 0, none⟩) 0 cs.size, .slice none 0 0]).run Tryd.prog W = .ok (goInt 0) W :=
    fun W => run_copy_none W 27 27 3 5 _ _ 0 cs.size 0 0 Tryd.underlying27 (by kernel_rfl) rfl
  clear hw
  have hm : cs.size ≤ 9223372036854775807 := by have := hmax (by unfold maxLen; omega); simpa [maxLen] using this
  have mixed : Tryd.prog.follows Departure.mixedOrders = true := by kernel_rfl
  go_enter Tryd.func43, Tryd.ntmps43
  go_wp2
  go_region_o
  all_goals (go_wp2; go_end0; exact ⟨rfl, cs, hm, rfl⟩)
set_option maxHeartbeats 2000000 in
set_option maxRecDepth 1000000 in
theorem bGrow_walk (b n : Nat) (w w1 : World) (hcc : Calls Tryd.prog 42 #[.pointer (some ⟨b, 0, none⟩)] w fun e w' => e = .returned (.tuple #[]) ∧ w' = w1)
    (hbk1 : w1.heap[b]? = some (.cells #[.pointer (some ⟨b, 0, none⟩), .slice none 0 0] 70 (0, 0))) (hn : n ≤ 281474976710656) :
    Calls Tryd.prog 30 #[.pointer (some ⟨b, 0, none⟩), .int .i64 n] w fun e w' => e = .returned (.tuple #[]) ∧
      (w' = w1.drew ∨ ∃ (cs : Array Value), cs.size ≤ 9223372036854775807 ∧ w' = ((w1.drew.setCell ⟨b, 1, none⟩ (.slice (some ⟨w1.heap.size, 0, none⟩) 0 cs.size)).alloc (.cells cs 5)).drew.drew.drew) := by
  have c1 : w1.cell? ⟨b, 1, none⟩ = some (.slice none 0 0) := by rw [Lib.cell_of_heap hbk1]; rfl
  have c1' : w1.drew.cell? ⟨b, 1, none⟩ = some (.slice none 0 0) := c1
  have hbk2 : w1.drew.heap[b]? = some (.cells #[.pointer (some ⟨b, 0, none⟩), .slice none 0 0] 70 (0, 0)) := hbk1
  have mixed : Tryd.prog.follows Departure.mixedOrders = true := by kernel_rfl
  go_enter Tryd.func30, Tryd.ntmps30
  go_wp2_with (go_at_call 42; refine hcc.mono ?_; rintro e w' ⟨rfl, h0⟩; obtain rfl := h0.symm)
  go_region_o
  all_goals go_wp2_with (go_at_call 43; refine (bgrow_walk b n w1.drew hbk2 hn).mono ?_; rintro e w' ⟨rfl, cs, h1, rfl⟩)
  all_goals first
    | (go_end0; exact ⟨rfl, .inr ⟨cs, h1, rfl⟩⟩)
    | (go_end0; exact ⟨rfl, .inl rfl⟩)
end Go.Proofs.YtfabdnpeohpgnaaDoor
