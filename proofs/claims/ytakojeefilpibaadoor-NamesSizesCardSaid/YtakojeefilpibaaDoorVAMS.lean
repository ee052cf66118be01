import Derived.Test.YtakojeefilpibaaDoorVAM3
import Derived.Test.YtakojeefilpibaaDoorRows
import Derived.Handed
import Derived.LaidMore
import Derived.LaidLaws
import Derived.LaidHandle
import Derived.MakeChecks
import Derived.SizedLaws
import Derived.Shelf.Vars
import Derived.OpenShut
import Derived.ChangeArms
import Derived.Stop.Joined
import Derived.Test.YtakojeefilpibaaDoorChecked
import Derived.Lib.SplitLaws
import Derived.Lib.IndexAny
import Derived.Lib.IndexMore
namespace Go.Proofs.YtakojeefilpibaaDoor
set_option linter.all false
open Go.RowKit
attribute [go_sem] b_scope b_gn b_gr b_gx b_skip b_reg b_draw b_seq b_cond b_block b_loop b_exit b_ret b_nil b_op b_gt b_gf b_dnil b_dop b_dgt b_dgf b_aq isB_t isB_u isB_f isB_g isB_p isU_t isU_b ifB_t ifB_f b_tn b_tx b_tr b_in b_ir b_ix b_rn b_rr b_pt b_pn b_pi b_pv b_of b_mk0 b_mk1 b_lk b_put nR0 nRs nRn sR0 sRs sRn sRm topR hp_toS lk_toS ev_toS ev_c exD AOp.isH keepN preB avalP pureR astep stV stN stE stC aval anew aElems frzS frzH aeff slots aret ares aress AV.isTup n_0 w_0 n_1 w_1 n_2 w_2 n_3 w_3 n_4 w_4 n_5 w_5 n_6 w_6 n_7 w_7 n_8 w_8 n_9 w_9 n_10 w_10 n_11 w_11 n_12 w_12 n_13 w_13 n_14 w_14 n_15 w_15 eqFs aEqS ofC_i ofC_b ofC_s ofC_U getD_mapU getD_Bs Bs_len Int.toNat_natCast opd pt tk subp rdP Rt.size Rt.isAgg Rt.zv aBin aInt aStr arI aUn aToInt aToStr aIdxS zv aIdxA aIa aIaA aFa aLd aFld pparts aLo aHi cutL aSlS aSl aExt aNck aNilc AV.isStr aLen AV.one AV.multi pureB szOk psz drp spl aEqB aEqA aMm aMkfn aMkif aBuild toV aBuildA wrP unparts view nilS St.ev lk St.put St.pin St.pinV acall0_if acall1 acall2 acall3_none acall3_if acall3b emp3 pv pvr pvs isP_nil isP_cons bor bor0 bor1 phiL_nil phiL_at tau lentO okIds flatC flatB flatOs flatO flatPs place setAll_nil setAll_cons nodupB renObj closeIds addNew idsOf idsObj posOf lenOk_0 lenOk_1 lenOk_2 lenOk_3 lenOk_4 lenOk_8 Option.isSome_none Option.isSome_some Bool.or_true Bool.true_or beq_self_eq_true List.map List.set List.map_cons List.map_nil List.flatMap_cons List.flatMap_nil List.flatten_cons List.flatten_nil true_and and_true List.length_cons List.length_nil List.nil_append List.cons_append List.append_nil Option.map mapO ren kp kpI ent nilG Option.bind List.range List.range.loop List.getElem?_cons_zero List.getElem?_cons_succ List.getElem?_nil List.getD_cons_zero List.getD_cons_succ List.drop_zero List.drop_succ_cons List.drop_nil List.take_zero List.take_succ_cons List.all_cons List.all_nil List.isEmpty_nil List.isEmpty_cons Bool.and_true Bool.true_and Bool.not_true Bool.not_false List.contains_nil List.contains_cons Bool.or_false Bool.false_or eq_self forall_const false_implies Bool.false_eq_true Nat.le_refl List.length_map List.length_set List.length_replicate and_self implies_true Bool.and_self Bool.false_and Bool.and_false finP finI Int.cast_ofNat_Int decide_true decide_false bq_t bq_f bq_u bq_g
end Go.Proofs.YtakojeefilpibaaDoor
namespace Go.Proofs.YtakojeefilpibaaDoor
set_option linter.all false
open Go.RowKit
theorem returns_shaped {H : Type} {enc : TypeId × Value → H} {f : FuncId} {fn : Func} {a : Assume} {C : Checked} {os : Os} {s : ChangeSpec} {conds : List PathCond} {apart fresh handsOn again : Bool} {X : World → Array Value → Prop}
    (hX : ∀ (w w' : World) (args : Array Value), w.heap = w'.heap → X w args → X w' args)
    (own : ownKnob C.prog.godebug = none) (started : os.Started) (noInit : C.prog.inits.idxOf? f = none) (hfn : C.prog.funcs[f]? = some fn)
    (witness : ∃ (w : World) (tape : Tape) (i : Input), w.os = os ∧ (w.forCall tape i).Shaped C.prog ∧ i.vars = [] ∧ Input.okWide C.prog (w.forCall tape i) .any w.heap.size f i ∧
      ((s.pre enc C.prog fn conds apart (w.forCall tape i).memory i.args ∧ X (w.forCall tape i).memory i.args) ∧ sizedMet enc C.prog fn (OpenSpec.ofChange s) apart (w.forCall tape i).memory i.args) ∧ a.holds C.prog (lone (Frame.enter C.prog f i.args .normal) [] (w.forCall tape i)))
    (contract : ∀ (W : World) (base : Nat) (args : Array Value) (ds gs : List (DataW H)) (before : List MemPlace),
      (∀ (j : Nat) t v, fn.params[j]? = some t → args[j]? = some v → Value.okWide C.prog W .any base t v) →
      DataW.Whole enc C.prog fn.params.toList s.vars apart W args.toList ds gs before →
      X W args → W.ShapedOpen C.prog →
      Calls C.prog f args W fun e W' => ∃ v, e = .returned v ∧ s.post enc C.prog fn apart fresh handsOn again W args v W') :
    ReturnsInHanded a C os f .any (fun w args => (s.pre enc C.prog fn conds apart w args ∧ X w args) ∧ sizedMet enc C.prog fn (OpenSpec.ofChange s) apart w args) (s.post enc C.prog fn apart fresh handsOn again) := by
  refine returnsInHanded_of_calls own started noInit witness ?_
  intro w tape i _ hsh _ hok hpre _
  obtain ⟨_, _, _, fn', hfn', _, _, _, _, hval⟩ := hok
  obtain rfl : fn' = fn := Option.some.inj (hfn'.symm.trans hfn)
  obtain ⟨⟨⟨ds, gs, before, hw, _⟩, hx⟩, _⟩ := hpre
  refine (contract (w.forCall tape i) w.heap.size i.args ds gs before hval (DataW.Whole.of_heap (w' := w.forCall tape i) (by rfl) hw) (hX _ _ _ (by rfl) hx) hsh).mono fun e W' ⟨v, he, hp⟩ => ?_
  subst he
  exact ChangeSpec.post_blind hp
end Go.Proofs.YtakojeefilpibaaDoor
namespace Go.Proofs.YtakojeefilpibaaDoor
set_option linter.all false
open Go.RowKit
def GeOk (w : World) (S : Nat → Prop) : Nat × GE → Prop
  | (g, .cells cs) => S g ∧ (∀ u ∈ cs, u.oneCell' = true) ∧ ∃ t fr, w.heap[g]? = some (.cells cs.toArray t fr)
  | (g, .err t l) => S g ∧ ∃ b o ty fr, w.heap[g]? = some (.cells #[.iface t (.pointer (some ⟨b, o, none⟩))] ty fr) ∧ S b ∧ w.cell? ⟨b, o, none⟩ = some (.string ⟨l.toArray⟩)
theorem glob1_ok {w : World} {S : Nat → Prop} {g sz : Nat} {x : AV} : ∀ l : List (Nat × GE), (∀ e ∈ l, GeOk w S e) → glob1 g l = some (sz, x) → S g ∧ ∃ us t fr, Cs w S rho0 x us ∧ us.length = sz ∧ w.heap[g]? = some (.cells us.toArray t fr) := by
  intro l
  induction l with
  | nil => intro _ h; cases h
  | cons e l ih =>
    intro h hg
    obtain ⟨k, e⟩ := e
    have h0 := h _ (List.mem_cons_self ..)
    have h1 := ih (fun e he => h e (List.mem_cons_of_mem _ he))
    cases e with
    | cells cs =>
      simp only [glob1] at hg
      split at hg
      · rename_i e
        subst e
        simp only [Option.some.injEq, Prod.mk.injEq] at hg
        obtain ⟨rfl, rfl⟩ := hg
        obtain ⟨a1, a2, t, fr, a3⟩ := h0
        exact ⟨a1, cs, t, fr, .blob cs a2, rfl, a3⟩
      · exact h1 hg
    | err t l =>
      simp only [glob1] at hg
      split at hg
      · rename_i e
        subst e
        simp only [Option.some.injEq, Prod.mk.injEq] at hg
        obtain ⟨rfl, rfl⟩ := hg
        obtain ⟨a1, b, o, ty, fr, a2, a3, a4⟩ := h0
        refine ⟨a1, [.iface t (.pointer (some ⟨b, o, none⟩))], ty, fr, ?_, rfl, a2⟩
        have hp : Cs w S rho0 (.ptr 1 (.str l) 0 0) [.pointer (some ⟨b, o + (0 + 0), none⟩)] := .ptr 1 (.str l) 0 0 [.string ⟨l.toArray⟩] b o a3 (.str l) rfl (fun j hj => by
          have : j = 0 := by simpa using hj
          subst this
          simpa using a4)
        exact .iface t _ _ hp
      · exact h1 hg
theorem globOk_of {w : World} {S : Nat → Prop} (h : ∀ e ∈ globs, GeOk w S e) (hi : ∀ g, globInts.contains g = true → S g ∧ ∃ m, w.cell? ⟨g, 0, none⟩ = some (.int .i64 m)) : GlobOk w S := ⟨fun _ _ _ hg => glob1_ok globs h hg, hi⟩
theorem glob_of_laid {W : World} (h0 : laidMetH Tryd.prog Rows.namesBackRow.laid W) (hsh : W.ShapedOpen Tryd.prog) : GlobOk W (fun b => b < W.heap.size) := by
  rw [MakeChecks.laidMetH_plain _ _ _ (by kernel_rfl)] at h0
  have h : laidMet Tryd.prog Rows.namesBackRow.laid W := h0
  refine globOk_of (fun e he => ?_) (fun g hx => by
    obtain rfl : g = 0 := by simpa [globInts] using hx
    obtain ⟨m, hm⟩ := cell_of_shapedOpen_int (zero := #[.int .i64 0]) (t := 3) (g := 0) hsh (of_decide_eq_true (by kernel_rfl)) (by kernel_rfl) rfl (by kernel_rfl) (by kernel_rfl) Tryd.underlying3
    exact ⟨World.block_lt_of_cell? _ _ hm, m, hm⟩)
  simp [globs] at he
end Go.Proofs.YtakojeefilpibaaDoor
namespace Go.Proofs.YtakojeefilpibaaDoor
set_option linter.all false
open Go.RowKit
section
variable {P : Program} {f : FuncId} {sp sp1 sp2 : Spec}
theorem FnOk.or (h1 : FnOk P f sp1) (h2 : FnOk P f sp2) (h : ∀ avs hp r, sp avs hp = some r → r.pre → (∃ r', sp1 avs hp = some r' ∧ r'.pre ∧ r'.v = r.v ∧ r'.hp = r.hp) ∨ (∃ r', sp2 avs hp = some r' ∧ r'.pre ∧ r'.v = r.v ∧ r'.hp = r.hp)) : FnOk P f sp := by
  intro avs hp r hs hp' w S ρ args H ha
  rcases h avs hp r hs hp' with ⟨r', k1, k2, k3, k4⟩ | ⟨r', k1, k2, k3, k4⟩
  · rw [← k3, ← k4]; exact h1 avs hp r' k1 k2 w S ρ args H ha
  · rw [← k3, ← k4]; exact h2 avs hp r' k1 k2 w S ρ args H ha
theorem FnOk.imp (h1 : FnOk P f sp1) (h : ∀ avs hp r, sp avs hp = some r → r.pre → ∃ r', sp1 avs hp = some r' ∧ r'.pre ∧ r'.v = r.v ∧ r'.hp = r.hp) : FnOk P f sp :=
  FnOk.or h1 h1 fun avs hp r hs hp' => .inl (h avs hp r hs hp')
def isOwn (ver : Nat) : AV → Bool
  | .own 0 v => v == ver
  | _ => false
theorem isOwn_eq {ver : Nat} {x : AV} (h : isOwn ver x = true) : x = .own 0 ver := by
  unfold isOwn at h
  split at h
  · rw [beq_iff_eq.1 h]
  · cases h
def fz1 (ver : Nat) (y x : AV) : AV := if isOwn ver x then y else x
def fzOk (ver : Nat) (x : AV) : Bool := isOwn ver x || (pureB 4 x && !(match x with | .tup _ => true | _ => false))
def fz (ver : Nat) (y : AV) : AV → AV
  | .tup l => .tup (l.map (fz1 ver y))
  | x => fz1 ver y x
def fzOkV (ver : Nat) : AV → Bool
  | .tup l => l.all (fzOk ver)
  | x => fzOk ver x
theorem FnOk.freeze (h : FnOk P f sp1) (hh : ∀ avs hp r', sp avs hp = some r' → r'.pre → hp = [] ∧ ∃ r e sz ver xs, sp1 avs [] = some r ∧ r.pre ∧ r.hp = [.row e sz ver xs] ∧ 0 < sz ∧ fzOkV ver r.v = true ∧ r'.v = fz ver (.sl sz xs) r.v ∧ r'.hp = []) : FnOk P f sp := by
  intro avs hp r' hs hp' w S ρ args H ha
  obtain ⟨rfl, r, e, sz, ver, xs, k1, k2, k3, k4, k5, k6, k7⟩ := hh avs hp r' hs hp'
  refine (h avs [] r k1 k2 w S ρ args H ha).mono ?_
  rintro e0 w' ⟨v, S', ρ', rfl, hv, H', hE, hS⟩
  rw [k3] at H'
  obtain ⟨L, us, o1, o2, o3, o4, o5, o6⟩ := H'.ob 0 _ rfl
  subst o3
  have hM := o4.mem o2 o5
  have hblk : (AObj.row e L.sz ver xs).blk ρ' 0 = ablk L.A := by simp [AObj.blk, o1]
  have hsl : ∀ w ρ, w = w' → Vl w (fun b => S' b ∨ ablk L.A = some b) ρ (.sl L.sz xs) (.slice L.A L.n L.c) := fun w ρ ew => by subst ew; exact hM.sl k4 (fun b hb => .inr hb) (fun b hb => .inl hb)
  have one : ∀ x u, fzOk ver x = true → Vl1 w' S' ρ' x u → Vl1 w' (fun b => S' b ∨ ablk L.A = some b) ρ (fz1 ver (.sl L.sz xs) x) u := by
    intro x u hx hu
    unfold fz1
    cases ho : isOwn ver x with
    | true =>
      have hx' := isOwn_eq ho
      subst hx'
      have hu' : Vl w' S' ρ' (.own 0 ver) u := hu
      obtain ⟨L', e1, rfl⟩ := hu'.own
      rw [o1] at e1; injection e1 with e1; subst e1
      exact hsl w' ρ rfl
    | false =>
      rw [if_neg (by simp)]
      unfold fzOk at hx
      rw [ho, Bool.false_or, Bool.and_eq_true] at hx
      rcases hu with hu | ⟨vs, hc, hu⟩
      · exact .inl hu
      · exact .inr ⟨vs, pureB_ok 4 (hc.ext (fun _ _ => rfl) (fun b hb => .inl hb) (fun _ _ _ h => h)) hx.1, hu⟩
  refine ⟨v, fun b => S' b ∨ ablk L.A = some b, ρ, rfl, ?_, ?_, ⟨hE.mem, fun b hb => .inl (hE.st b hb), fun _ _ _ h => h⟩, ?_⟩
  · rw [k6]
    cases hrv : r.v with
    | tup l =>
      rw [hrv] at hv k5
      obtain ⟨vs, e1, e2, e3⟩ := hv
      refine ⟨vs, e1, by simpa using e2, fun i hi => ?_⟩
      simp only [List.length_map] at hi
      have h1 := one (l.getD i .top) (vs.getD i undef) (by
        have := List.all_eq_true.1 k5 (l.getD i .top) (by rw [List.getD_eq_getElem?_getD, List.getElem?_eq_getElem hi]; exact List.getElem_mem _)
        exact this) (e3 i hi)
      have e4 : (l.map (fz1 ver (.sl L.sz xs))).getD i .top = fz1 ver (.sl L.sz xs) (l.getD i .top) := by
        rw [List.getD_eq_getElem?_getD, List.getElem?_map, List.getD_eq_getElem?_getD, List.getElem?_eq_getElem hi]; rfl
      rw [e4]; exact h1
    | _ =>
      rw [hrv] at hv k5
      have h1 := one _ v k5 (Vl.to1 (by intro xs; simp) hv)
      refine Vl.of1 (fun ys hy => ?_) h1
      simp only [fz, fz1] at hy
      split at hy <;> cases hy
  · rw [k7]
    refine ⟨H'.kept, fun id o ho => by simp at ho, fun i j x y _ hx => by simp at hx, fun id o ho => by simp at ho, fun b hb => ?_, fun id _ v => H.new id (Nat.zero_le _) v, fun id o ho => by simp at ho⟩
    rcases hb with hb | hb
    · exact H'.slt b hb
    · rcases o4.2 with ⟨z1, _, _⟩ | ⟨g, cur, fr, z1, z2, _⟩
      · rw [z1] at hb; cases hb
      · rw [z1] at hb
        have : g = b := by simpa [ablk] using hb
        subst this
        exact (Array.getElem?_eq_some_iff.1 z2).1
  · rintro b (hb | hb)
    · exact hS b hb
    · rcases H'.mine 0 _ rfl b (by rw [hblk]; exact hb) with h1 | h1
      · exact .inr (.inr h1)
      · exact .inr (.inl h1)
theorem fnok_row (h : ∀ avs hp r, sp avs hp = some r → r.pre → hp = [] ∧ ∃ e sz xs, r.v = .own 0 0 ∧ r.hp = [.row e sz 0 xs] ∧ ∀ (w : World) (S : Nat → Prop) (ρ : Rho) (args : List Value), (∀ b, S b → b < w.heap.size) → ArgsOk w S ρ avs args →
    Calls P f args.toArray w fun e' w' => ∃ g n c us cur fr, e' = .returned (.slice (some ⟨g, 0, none⟩) n c) ∧ Below w.heap.size w w' ∧ w.heap.size ≤ g ∧ w'.heap[g]? = some (.cells cur e fr) ∧ Mk fr cur.size ∧ n ≤ c ∧ c ≤ 9223372036854775807 ∧ cur.size = c * sz ∧ cur.toList.take (n * sz) = us ∧
      us.length = n * sz ∧ n = xs.length ∧ Css w' (fun _ => False) rho0 (prs sz xs) us) : FnOk P f sp := by
  intro avs hp r hs hp' w S ρ args H ha
  obtain ⟨rfl, e, sz, xs, k1, k2, hc⟩ := h avs hp r hs hp'
  refine (hc w S ρ args H.slt ha).mono ?_
  rintro e' w' ⟨g, n, c, us, cur, fr, rfl, hb, hg, m1, m2, m3, m4, m5, m6, m7, m8, m9⟩
  have hn : ∀ u, ρ 0 u = none := fun u => H.new 0 (Nat.zero_le _) u
  obtain ⟨H', hE⟩ := H.push (w' := w') (S' := S) (ρ' := rset ρ 0 0 ⟨some ⟨g, 0, none⟩, c, n, sz⟩) (o' := .row e sz 0 xs) hb (fun _ h => h) (fun _ h => .inl h)
    (fun i v L hL => by
      unfold rset
      by_cases hi : i = 0 ∧ v = 0
      · obtain ⟨rfl, rfl⟩ := hi; rw [hn] at hL; cases hL
      · rw [if_neg hi]; exact hL)
    (fun i v hi => by unfold rset; rw [if_neg (by intro hh; exact hi hh.1)])
    ⟨⟨some ⟨g, 0, none⟩, c, n, sz⟩, us, by simp [rset], m8, rfl, ⟨m7, .inr ⟨g, cur, fr, rfl, m1, m2, m3, m4, m5, m6⟩⟩, m9.ext ⟨fun b hb => hb.elim, fun b hb => hb.elim, fun _ _ _ h => h⟩, fun b hb hS => by
      have : g = b := by simpa [ablk] using hb
      subst this
      have := H.slt _ hS; omega⟩
    (fun v hv => by
      have hv0 : 0 < v := hv
      show rset ρ 0 0 _ 0 v = none
      unfold rset; rw [if_neg (by intro hh; omega)]; exact hn v)
    (fun b hb => by
      have hb' : ((rset ρ 0 0 ⟨some ⟨g, 0, none⟩, c, n, sz⟩ 0 0).bind fun L => ablk L.A) = some b := hb
      have : g = b := by simpa [rset, ablk] using hb'
      omega)
  refine ⟨_, S, _, rfl, ?_, by rw [k2]; exact H', hE, fun b h => .inl h⟩
  rw [k1]
  exact .inr ⟨_, .own 0 0 ⟨some ⟨g, 0, none⟩, c, n, sz⟩ (by simp [rset]), rfl⟩
end
section
variable {P : Program} {f : FuncId} {sp : Spec}
end
theorem loop2P {Φ : Phi} {m : Nat} {c : ACode} {Q : Exit → S2 → Prop} {s : S2} {α : Type} (nils : List (Nat × TypeId × Nat)) (sl ids : List Nat) (st : α → St) (Inv : α → Prop) (μ : α → Nat) (a0 : α) (hk : ent nils sl ids (toS s) = some (st a0)) (h0 : Inv a0) (hm : nodupB ids = true ∧ ids.take m = List.range m)
    (h : ∀ a, Inv a → ∀ R : S2 → Prop, (∀ s' a', Inv a' → μ a' < μ a → kp sl ids.length (toS s') = some (st a') → R s') → awp2 Φ m c (thenQ2 R Q) (ofS (st a))) : loopQ2 m (awp2 Φ m c) Q s :=
  loop2 nils sl ids st Inv μ a0 hk h0 hm fun a ha => h a ha _ fun _ a' h1 h2 h3 => ⟨a', h1, h2, h3⟩
end Go.Proofs.YtakojeefilpibaaDoor
namespace Go.Proofs.YtakojeefilpibaaDoor
set_option linter.all false
open Go.RowKit
def c_ntold : ACode := (.seq (.reg none [⟨(some 2), (.mv (.c (.str []))), none⟩]) (.seq (.reg (some [(0, false), (1, false), (2, false), (3, false), (4, false), (5, false), (6, true), (7, true), (8, true)]) [⟨(some 3), (.mv (.t 0)), none⟩, ⟨(some 4), (.bin .shr (.t 3) (.c (.int .u64 4))), none⟩, ⟨(some 5), (.idxS (.c (.str [48, 49, 50, 51, 52, 53, 54, 55, 56, 57, 97, 98, 99, 100, 101, 102])) (.t 4)), none⟩, ⟨(some 6), (.mv (.t 0)), none⟩, ⟨(some 7), (.bin .and (.t 6) (.c (.int .u8 15))), none⟩, ⟨(some 8), (.idxS (.c (.str [48, 49, 50, 51, 52, 53, 54, 55, 56, 57, 97, 98, 99, 100, 101, 102])) (.t 7)), none⟩, ⟨(some 9), (.buildSl 5 1 [(.c (.int .u8 126)), (.t 5), (.t 8)]), none⟩, ⟨(some 10), (.toStr (.t 9)), none⟩, ⟨(some 2), (.mv (.t 10)), none⟩]) .ret))
def r_ntold : List ARes := [(.t 2)]
theorem s_ntold : slimF Tryd.prog Tryd.f26 = some (c_ntold, r_ntold) := by kernel_rfl
def c_none1 : ACode := (.seq (.reg none [⟨(some 2), (.mv (.c (.str []))), none⟩]) (.seq (.block 0 (.seq (.reg none [⟨(some 4), (.mv (.t 0)), none⟩, ⟨(some 5), (.bin .geq (.t 4) (.c (.int .u8 65))), none⟩, ⟨(some 6), (.mv (.t 5)), none⟩, ⟨(some 7), (.mv (.t 0)), (some (6, true))⟩, ⟨(some 8), (.bin .leq (.t 7) (.c (.int .u8 90))), (some (6, true))⟩, ⟨(some 9), (.pick (.t 6) (.t 8) (.c (.bool false))), none⟩, ⟨(some 3), (.mv (.t 9)), none⟩]) (.cond (.t 3) (.seq (.reg none [⟨(some 10), (.mv (.t 0)), none⟩, ⟨(some 11), (.bin .add (.t 10) (.c (.int .u8 32))), none⟩, ⟨(some 12), (.buildSl 5 1 [(.c (.int .u8 95)), (.t 11)]), none⟩, ⟨(some 13), (.toStr (.t 12)), none⟩, ⟨(some 2), (.mv (.t 13)), none⟩]) .ret) (.seq (.reg none [⟨(some 15), (.mv (.t 0)), none⟩, ⟨(some 16), (.bin .eql (.t 15) (.c (.int .u8 95))), none⟩, ⟨(some 14), (.mv (.t 16)), none⟩]) (.cond (.t 14) (.seq (.reg none [⟨(some 2), (.mv (.c (.str [95, 95]))), none⟩]) .ret) (.seq (.seq (.reg none [⟨(some 18), (.mv (.t 0)), none⟩, ⟨(some 19), (.bin .lss (.t 18) (.c (.int .u8 32))), none⟩, ⟨(some 17), (.mv (.t 19)), none⟩]) (.cond (.t 17) .skip (.seq (.reg none [⟨(some 20), (.mv (.t 0)), none⟩, ⟨(some 21), (.bin .gtr (.t 20) (.c (.int .u8 125))), none⟩, ⟨(some 17), (.mv (.t 21)), none⟩]) (.cond (.t 17) .skip (.reg none [⟨(some 22), (.mv (.t 0)), none⟩, ⟨(some 23), (.call 31 [(.c (.str [92, 58, 42, 63, 34, 60, 62, 124])), (.t 22)]), none⟩, ⟨(some 24), (.bin .geq (.t 23) (.c (.int .i64 0))), none⟩, ⟨(some 17), (.mv (.t 24)), none⟩]))))) (.cond (.t 17) (.seq (.reg none [⟨(some 25), (.mv (.t 0)), none⟩, ⟨(some 26), (.call 26 [(.t 25)]), none⟩, ⟨(some 2), (.mv (.t 26)), none⟩]) .ret) .skip))))))) (.seq (.reg none [⟨(some 27), (.mv (.t 0)), none⟩, ⟨(some 28), (.buildSl 5 1 [(.t 27)]), none⟩, ⟨(some 29), (.toStr (.t 28)), none⟩, ⟨(some 2), (.mv (.t 29)), none⟩]) .ret)))
def r_none1 : List ARes := [(.t 2)]
theorem s_none1 : slimF Tryd.prog Tryd.f23 = some (c_none1, r_none1) := by kernel_rfl
def c_nkept : ACode := (.seq (.reg none [⟨(some 2), (.mv (.c (.bool false))), none⟩]) (.seq (.seq (.reg none [⟨(some 3), (.mv (.t 0)), none⟩, ⟨(some 4), (.len none true (.t 3)), none⟩, ⟨(some 5), (.bin .eql (.t 4) (.c (.int .i64 4))), none⟩, ⟨(some 6), (.mv (.t 5)), none⟩, ⟨(some 7), (.mv (.t 0)), (some (6, true))⟩, ⟨(some 8), (.slS (.t 7) none (some (.c (.int .i64 3)))), (some (6, true))⟩, ⟨(some 9), (.bin .eql (.t 8) (.c (.str [99, 111, 109]))), (some (6, true))⟩, ⟨(some 10), (.mv (.t 9)), (some (6, true))⟩, ⟨(some 11), (.mv (.t 0)), (some (10, false))⟩, ⟨(some 12), (.slS (.t 11) none (some (.c (.int .i64 3)))), (some (10, false))⟩, ⟨(some 13), (.bin .eql (.t 12) (.c (.str [108, 112, 116]))), (some (10, false))⟩, ⟨(some 14), (.pick (.t 10) (.c (.bool true)) (.t 13)), (some (6, true))⟩, ⟨(some 15), (.pick (.t 6) (.t 14) (.c (.bool false))), none⟩, ⟨(some 16), (.mv (.t 15)), none⟩, ⟨(some 17), (.mv (.t 0)), (some (16, true))⟩, ⟨(some 18), (.idxS (.t 17) (.c (.int .i64 3))), (some (16, true))⟩, ⟨(some 19), (.bin .geq (.t 18) (.c (.int .u8 49))), (some (16, true))⟩, ⟨(some 20), (.pick (.t 16) (.t 19) (.c (.bool false))), none⟩, ⟨(some 21), (.mv (.t 20)), none⟩, ⟨(some 22), (.mv (.t 0)), (some (21, true))⟩, ⟨(some 23), (.idxS (.t 22) (.c (.int .i64 3))), (some (21, true))⟩, ⟨(some 24), (.bin .leq (.t 23) (.c (.int .u8 57))), (some (21, true))⟩, ⟨(some 25), (.pick (.t 21) (.t 24) (.c (.bool false))), none⟩]) (.cond (.t 25) (.seq (.reg none [⟨(some 2), (.mv (.c (.bool true))), none⟩]) .ret) .skip)) (.seq (.reg none [⟨(some 26), (.buildSl 9 1 [(.c (.str [97, 117, 120])), (.c (.str [99, 111, 110])), (.c (.str [112, 114, 110])), (.c (.str [110, 117, 108]))]), none⟩, ⟨(some 27), (.mv (.t 0)), none⟩, ⟨(some 28), (.call 40 [(.t 26), (.t 27)]), none⟩, ⟨(some 2), (.mv (.t 28)), none⟩]) .ret)))
def r_nkept : List ARes := [(.t 2)]
theorem s_nkept : slimF Tryd.prog Tryd.f27 = some (c_nkept, r_nkept) := by kernel_rfl
def b_npart_0 : ACode := (.seq (.reg none [⟨(some 15), (.bin .lss (.t 14) (.t 13)), none⟩]) (.seq (.cond (.t 15) .skip (.exit 0)) (.seq (.block 1 (.seq (.reg none [⟨(some 16), (.ia 1 (.int .u8 0) (.t 12) (.t 14)), none⟩, ⟨(some 17), (.ld (.one (.int .u8 0)) (.t 16)), none⟩, ⟨(some 5), (.mv (.t 17)), none⟩]) (.reg none [⟨(some 18), (.mv (.t 5)), none⟩, ⟨(some 19), (.call 23 [(.t 18)]), none⟩, ⟨(some 20), (.call 22 [(.t 3), (.t 19)]), none⟩]))) (.reg none [⟨(some 21), (.bin .add (.t 14) (.c (.int .i64 1))), none⟩, ⟨(some 14), (.mv (.t 21)), none⟩]))))
def k_npart_t0_75 : ACode := (.seq (.reg none [⟨(some 75), (.mv (.t 6)), none⟩, ⟨(some 2), (.mv (.t 75)), none⟩]) .ret)
def k_npart_t0_64 : ACode := (.seq (.seq (.reg none [⟨(some 64), (.mv (.t 7)), none⟩, ⟨(some 65), (.call 27 [(.t 64)]), none⟩]) (.cond (.t 65) (.reg (some [(0, false), (1, false), (2, false), (3, false), (4, false), (5, false), (4, false), (4, false), (8, true), (9, true)]) [⟨(some 66), (.mv (.t 6)), none⟩, ⟨(some 67), (.slS (.t 66) none (some (.c (.int .i64 2)))), none⟩, ⟨(some 68), (.mv (.t 6)), none⟩, ⟨(some 69), (.idxS (.t 68) (.c (.int .i64 2))), none⟩, ⟨(some 70), (.call 26 [(.t 69)]), none⟩, ⟨(some 71), (.bin .add (.t 67) (.t 70)), none⟩, ⟨(some 72), (.mv (.t 6)), none⟩, ⟨(some 73), (.slS (.t 72) (some (.c (.int .i64 3))) none), none⟩, ⟨(some 74), (.bin .add (.t 71) (.t 73)), none⟩, ⟨(some 6), (.mv (.t 74)), none⟩]) .skip)) k_npart_t0_75)
def k_npart_t0_43 : ACode := (.seq (.seq (.reg none [⟨(some 43), (.mv (.t 6)), none⟩, ⟨(some 44), (.len none true (.t 43)), none⟩, ⟨(some 45), (.bin .sub (.t 44) (.c (.int .i64 1))), none⟩, ⟨(some 10), (.mv (.t 45)), none⟩]) (.seq (.reg none [⟨(some 46), (.mv (.t 6)), none⟩, ⟨(some 47), (.mv (.t 10)), none⟩, ⟨(some 48), (.idxS (.t 46) (.t 47)), none⟩, ⟨(some 49), (.bin .eql (.t 48) (.c (.int .u8 46))), none⟩, ⟨(some 50), (.mv (.t 49)), none⟩, ⟨(some 51), (.mv (.t 6)), (some (50, false))⟩, ⟨(some 52), (.mv (.t 10)), (some (50, false))⟩, ⟨(some 53), (.idxS (.t 51) (.t 52)), (some (50, false))⟩, ⟨(some 54), (.bin .eql (.t 53) (.c (.int .u8 32))), (some (50, false))⟩, ⟨(some 55), (.pick (.t 50) (.c (.bool true)) (.t 54)), none⟩]) (.cond (.t 55) (.reg (some [(0, false), (1, false), (2, false), (3, false), (4, false), (5, false), (6, false), (7, true), (8, true)]) [⟨(some 56), (.mv (.t 6)), none⟩, ⟨(some 57), (.mv (.t 10)), none⟩, ⟨(some 58), (.slS (.t 56) none (some (.t 57))), none⟩, ⟨(some 59), (.mv (.t 6)), none⟩, ⟨(some 60), (.mv (.t 10)), none⟩, ⟨(some 61), (.idxS (.t 59) (.t 60)), none⟩, ⟨(some 62), (.call 26 [(.t 61)]), none⟩, ⟨(some 63), (.bin .add (.t 58) (.t 62)), none⟩, ⟨(some 6), (.mv (.t 63)), none⟩]) .skip))) k_npart_t0_64)
def k_npart_t0_29 : ACode := (.seq (.seq (.reg none [⟨(some 29), (.mv (.t 6)), none⟩, ⟨(some 30), (.idxS (.t 29) (.c (.int .i64 0))), none⟩, ⟨(some 31), (.bin .eql (.t 30) (.c (.int .u8 46))), none⟩, ⟨(some 32), (.mv (.t 31)), none⟩, ⟨(some 33), (.mv (.t 6)), (some (32, false))⟩, ⟨(some 34), (.idxS (.t 33) (.c (.int .i64 0))), (some (32, false))⟩, ⟨(some 35), (.bin .eql (.t 34) (.c (.int .u8 32))), (some (32, false))⟩, ⟨(some 36), (.pick (.t 32) (.c (.bool true)) (.t 35)), none⟩]) (.cond (.t 36) (.reg (some [(0, false), (1, false), (2, false), (2, false), (2, false), (5, true), (6, true)]) [⟨(some 37), (.mv (.t 6)), none⟩, ⟨(some 38), (.idxS (.t 37) (.c (.int .i64 0))), none⟩, ⟨(some 39), (.call 26 [(.t 38)]), none⟩, ⟨(some 40), (.mv (.t 6)), none⟩, ⟨(some 41), (.slS (.t 40) (some (.c (.int .i64 1))) none), none⟩, ⟨(some 42), (.bin .add (.t 39) (.t 41)), none⟩, ⟨(some 6), (.mv (.t 42)), none⟩]) .skip)) k_npart_t0_43)
def t_npart_0 : ACode := (.seq (.reg none [⟨(some 22), (.call 24 [(.t 3)]), none⟩, ⟨(some 6), (.mv (.t 22)), none⟩]) (.seq (.reg none [⟨(some 24), (.mv (.t 6)), none⟩, ⟨(some 25), (.call 25 [(.t 24), (.c (.str [46]))]), none⟩, ⟨(some 23), (.mv (.t 25)), none⟩, ⟨(some 26), (.ext (.t 23) 0), none⟩, ⟨(some 27), (.ext (.t 23) 1), none⟩, ⟨(some 28), (.ext (.t 23) 2), none⟩, ⟨(some 7), (.mv (.t 26)), none⟩, ⟨(some 8), (.mv (.t 27)), none⟩, ⟨(some 9), (.mv (.t 28)), none⟩]) k_npart_t0_29))
def c_npart : ACode := (.seq (.reg none [⟨(some 2), (.mv (.c (.str []))), none⟩]) (.seq (.reg none [⟨(some 3), (.new 41 [(1, (.con (.pointer none))), (1, (.con (.slice none 0 0)))]), none⟩]) (.seq (.seq (.reg none [⟨(some 11), (.mv (.t 0)), none⟩, ⟨(some 12), (.bytes 5 (.t 11)), none⟩, ⟨(some 13), (.len none false (.t 12)), none⟩, ⟨(some 14), (.mv (.c (.int .i64 0))), none⟩]) (.block 0 (.loop b_npart_0))) t_npart_0)))
def r_npart : List ARes := [(.t 2)]
theorem s_npart : slimF Tryd.prog Tryd.f11 = some (c_npart, r_npart) := by kernel_rfl
def b_nname_0 : ACode := (.seq (.reg none [⟨(some 16), (.bin .lss (.t 15) (.t 14)), none⟩]) (.seq (.cond (.t 16) .skip (.exit 0)) (.seq (.block 1 (.seq (.reg none [⟨(some 17), (.mv (.t 15)), none⟩, ⟨(some 18), (.ia 1 (.str []) (.t 13) (.t 15)), none⟩, ⟨(some 19), (.ld (.one (.str [])) (.t 18)), none⟩, ⟨(some 5), (.mv (.t 17)), none⟩, ⟨(some 6), (.mv (.t 19)), none⟩]) (.seq (.seq (.reg none [⟨(some 20), (.mv (.t 5)), none⟩, ⟨(some 21), (.mv (.t 4)), none⟩, ⟨(some 22), (.len none false (.t 21)), none⟩, ⟨(some 23), (.bin .sub (.t 22) (.c (.int .i64 1))), none⟩, ⟨(some 24), (.bin .lss (.t 20) (.t 23)), none⟩, ⟨(some 25), (.mv (.t 24)), none⟩, ⟨(some 26), (.mv (.t 6)), (some (25, true))⟩, ⟨(some 27), (.call 10 [(.t 26), (.c (.str [46, 105]))]), (some (25, true))⟩, ⟨(some 28), (.mv (.t 27)), (some (25, true))⟩, ⟨(some 29), (.mv (.t 6)), (some (28, false))⟩, ⟨(some 30), (.call 10 [(.t 29), (.c (.str [46, 100]))]), (some (28, false))⟩, ⟨(some 31), (.pick (.t 28) (.c (.bool true)) (.t 30)), (some (25, true))⟩, ⟨(some 32), (.mv (.t 31)), (some (25, true))⟩, ⟨(some 33), (.mv (.t 6)), (some (32, false))⟩, ⟨(some 34), (.call 10 [(.t 33), (.c (.str [46, 104, 103]))]), (some (32, false))⟩, ⟨(some 35), (.pick (.t 32) (.c (.bool true)) (.t 34)), (some (25, true))⟩, ⟨(some 36), (.pick (.t 25) (.t 35) (.c (.bool false))), none⟩]) (.cond (.t 36) (.reg none [⟨(some 37), (.mv (.t 6)), none⟩, ⟨(some 38), (.bin .add (.t 37) (.c (.str [46, 104, 103]))), none⟩, ⟨(some 6), (.mv (.t 38)), none⟩]) .skip)) (.reg none [⟨(some 39), (.mv (.t 4)), none⟩, ⟨(some 40), (.mv (.t 5)), none⟩, ⟨(some 41), (.mv (.t 6)), none⟩, ⟨(some 42), (.call 11 [(.t 41)]), none⟩, ⟨(some 43), (.ia 1 (.str []) (.t 39) (.t 40)), none⟩, ⟨none, (.st (.one (.str [])) (.t 43) (.t 42)), none⟩])))) (.reg none [⟨(some 44), (.bin .add (.t 15) (.c (.int .i64 1))), none⟩, ⟨(some 15), (.mv (.t 44)), none⟩]))))
def t_nname_0 : ACode := (.seq (.reg none [⟨(some 45), (.mv (.t 4)), none⟩, ⟨(some 46), (.call 12 [(.t 45), (.c (.str [47]))]), none⟩, ⟨(some 47), (.bin .add (.c (.str [100, 97, 116, 97, 47])) (.t 46)), none⟩, ⟨(some 48), (.bin .add (.t 47) (.c (.str [46, 105]))), none⟩, ⟨(some 7), (.mv (.t 48)), none⟩]) (.seq (.seq (.reg none [⟨(some 49), (.mv (.t 7)), none⟩, ⟨(some 50), (.len none true (.t 49)), none⟩, ⟨(some 51), (.bin .gtr (.t 50) (.c (.int .i64 255))), none⟩]) (.cond (.t 51) (.seq (.reg none [⟨(some 2), (.mv (.c (.str []))), none⟩, ⟨(some 3), (.mv (.c (.int .i64 2))), none⟩]) .ret) .skip)) (.seq (.reg none [⟨(some 52), (.mv (.t 7)), none⟩, ⟨(some 2), (.mv (.t 52)), none⟩, ⟨(some 3), (.mv (.c (.int .i64 0))), none⟩]) .ret)))
def c_nname : ACode := (.seq (.reg none [⟨(some 2), (.mv (.c (.str []))), none⟩, ⟨(some 3), (.mv (.c (.int .i64 0))), none⟩]) (.seq (.seq (.reg none [⟨(some 8), (.mv (.t 0)), none⟩, ⟨(some 9), (.call 8 [(.t 8)]), none⟩, ⟨(some 10), (.un .not (.t 9)), none⟩]) (.cond (.t 10) (.seq (.reg none [⟨(some 2), (.mv (.c (.str []))), none⟩, ⟨(some 3), (.mv (.c (.int .i64 1))), none⟩]) .ret) .skip)) (.seq (.reg none [⟨(some 11), (.mv (.t 0)), none⟩, ⟨(some 12), (.call 9 [(.t 11), (.c (.str [47]))]), none⟩, ⟨(some 4), (.mv (.t 12)), none⟩]) (.seq (.seq (.reg none [⟨(some 13), (.mv (.t 4)), none⟩, ⟨(some 14), (.len none false (.t 13)), none⟩, ⟨(some 15), (.mv (.c (.int .i64 0))), none⟩]) (.block 0 (.loop b_nname_0))) t_nname_0))))
def r_nname : List ARes := [(.t 2), (.t 3)]
theorem s_nname : slimF Tryd.prog Tryd.f5 = some (c_nname, r_nname) := by kernel_rfl
def b_nback_0 : ACode := (.seq (.seq (.reg none [⟨(some 7), (.mv (.t 4)), none⟩, ⟨(some 8), (.mv (.t 0)), none⟩, ⟨(some 9), (.len none true (.t 8)), none⟩, ⟨(some 10), (.bin .lss (.t 7) (.t 9)), none⟩]) (.cond (.t 10) .skip (.exit 0))) (.seq (.block 1 (.block 2 (.seq (.reg none [⟨(some 20), (.mv (.t 0)), none⟩, ⟨(some 21), (.mv (.t 4)), none⟩, ⟨(some 22), (.idxS (.t 20) (.t 21)), none⟩, ⟨(some 23), (.bin .eql (.t 22) (.c (.int .u8 95))), none⟩, ⟨(some 24), (.mv (.t 23)), none⟩, ⟨(some 25), (.mv (.t 4)), (some (24, true))⟩, ⟨(some 26), (.bin .add (.t 25) (.c (.int .i64 1))), (some (24, true))⟩, ⟨(some 27), (.mv (.t 0)), (some (24, true))⟩, ⟨(some 28), (.len none true (.t 27)), (some (24, true))⟩, ⟨(some 29), (.bin .lss (.t 26) (.t 28)), (some (24, true))⟩, ⟨(some 30), (.pick (.t 24) (.t 29) (.c (.bool false))), none⟩, ⟨(some 31), (.mv (.t 30)), none⟩, ⟨(some 32), (.mv (.t 0)), (some (31, true))⟩, ⟨(some 33), (.mv (.t 4)), (some (31, true))⟩, ⟨(some 34), (.bin .add (.t 33) (.c (.int .i64 1))), (some (31, true))⟩, ⟨(some 35), (.idxS (.t 32) (.t 34)), (some (31, true))⟩, ⟨(some 36), (.bin .eql (.t 35) (.c (.int .u8 95))), (some (31, true))⟩, ⟨(some 37), (.pick (.t 31) (.t 36) (.c (.bool false))), none⟩, ⟨(some 19), (.mv (.t 37)), none⟩]) (.cond (.t 19) (.seq (.reg none [⟨(some 38), (.mv (.t 3)), none⟩, ⟨(some 39), (.buildSl 5 1 [(.c (.int .u8 95))]), none⟩, ⟨(some 40), (.app 5 1 1 (.t 38) (.t 39)), none⟩, ⟨(some 3), (.mv (.t 40)), none⟩]) (.reg none [⟨(some 41), (.mv (.t 4)), none⟩, ⟨(some 42), (.bin .add (.t 41) (.c (.int .i64 1))), none⟩, ⟨(some 4), (.mv (.t 42)), none⟩])) (.seq (.reg none [⟨(some 44), (.mv (.t 0)), none⟩, ⟨(some 45), (.mv (.t 4)), none⟩, ⟨(some 46), (.idxS (.t 44) (.t 45)), none⟩, ⟨(some 47), (.bin .eql (.t 46) (.c (.int .u8 95))), none⟩, ⟨(some 48), (.mv (.t 47)), none⟩, ⟨(some 49), (.mv (.t 4)), (some (48, true))⟩, ⟨(some 50), (.bin .add (.t 49) (.c (.int .i64 1))), (some (48, true))⟩, ⟨(some 51), (.mv (.t 0)), (some (48, true))⟩, ⟨(some 52), (.len none true (.t 51)), (some (48, true))⟩, ⟨(some 53), (.bin .lss (.t 50) (.t 52)), (some (48, true))⟩, ⟨(some 54), (.pick (.t 48) (.t 53) (.c (.bool false))), none⟩, ⟨(some 55), (.mv (.t 54)), none⟩, ⟨(some 56), (.mv (.t 0)), (some (55, true))⟩, ⟨(some 57), (.mv (.t 4)), (some (55, true))⟩, ⟨(some 58), (.bin .add (.t 57) (.c (.int .i64 1))), (some (55, true))⟩, ⟨(some 59), (.idxS (.t 56) (.t 58)), (some (55, true))⟩, ⟨(some 60), (.bin .geq (.t 59) (.c (.int .u8 97))), (some (55, true))⟩, ⟨(some 61), (.pick (.t 55) (.t 60) (.c (.bool false))), none⟩, ⟨(some 62), (.mv (.t 61)), none⟩, ⟨(some 63), (.mv (.t 0)), (some (62, true))⟩, ⟨(some 64), (.mv (.t 4)), (some (62, true))⟩, ⟨(some 65), (.bin .add (.t 64) (.c (.int .i64 1))), (some (62, true))⟩, ⟨(some 66), (.idxS (.t 63) (.t 65)), (some (62, true))⟩, ⟨(some 67), (.bin .leq (.t 66) (.c (.int .u8 122))), (some (62, true))⟩, ⟨(some 68), (.pick (.t 62) (.t 67) (.c (.bool false))), none⟩, ⟨(some 43), (.mv (.t 68)), none⟩]) (.cond (.t 43) (.seq (.reg none [⟨(some 69), (.mv (.t 3)), none⟩, ⟨(some 70), (.mv (.t 0)), none⟩, ⟨(some 71), (.mv (.t 4)), none⟩, ⟨(some 72), (.bin .add (.t 71) (.c (.int .i64 1))), none⟩, ⟨(some 73), (.idxS (.t 70) (.t 72)), none⟩, ⟨(some 74), (.bin .sub (.t 73) (.c (.int .u8 32))), none⟩, ⟨(some 75), (.buildSl 5 1 [(.t 74)]), none⟩, ⟨(some 76), (.app 5 1 1 (.t 69) (.t 75)), none⟩, ⟨(some 3), (.mv (.t 76)), none⟩]) (.reg none [⟨(some 77), (.mv (.t 4)), none⟩, ⟨(some 78), (.bin .add (.t 77) (.c (.int .i64 1))), none⟩, ⟨(some 4), (.mv (.t 78)), none⟩])) (.seq (.reg none [⟨(some 80), (.mv (.t 0)), none⟩, ⟨(some 81), (.mv (.t 4)), none⟩, ⟨(some 82), (.idxS (.t 80) (.t 81)), none⟩, ⟨(some 83), (.bin .eql (.t 82) (.c (.int .u8 126))), none⟩, ⟨(some 84), (.mv (.t 83)), none⟩, ⟨(some 85), (.mv (.t 4)), (some (84, true))⟩, ⟨(some 86), (.bin .add (.t 85) (.c (.int .i64 2))), (some (84, true))⟩, ⟨(some 87), (.mv (.t 0)), (some (84, true))⟩, ⟨(some 88), (.len none true (.t 87)), (some (84, true))⟩, ⟨(some 89), (.bin .lss (.t 86) (.t 88)), (some (84, true))⟩, ⟨(some 90), (.pick (.t 84) (.t 89) (.c (.bool false))), none⟩, ⟨(some 79), (.mv (.t 90)), none⟩]) (.cond (.t 79) (.seq (.reg (some [(0, false), (1, false), (2, false), (3, false), (4, false), (4, false), (4, false), (4, false), (4, false), (9, true), (10, true), (11, true)]) [⟨(some 91), (.mv (.t 0)), none⟩, ⟨(some 92), (.mv (.t 4)), none⟩, ⟨(some 93), (.bin .add (.t 92) (.c (.int .i64 1))), none⟩, ⟨(some 94), (.idxS (.t 91) (.t 93)), none⟩, ⟨(some 95), (.call 31 [(.c (.str [48, 49, 50, 51, 52, 53, 54, 55, 56, 57, 97, 98, 99, 100, 101, 102])), (.t 94)]), none⟩, ⟨(some 96), (.mv (.t 0)), none⟩, ⟨(some 97), (.mv (.t 4)), none⟩, ⟨(some 98), (.bin .add (.t 97) (.c (.int .i64 2))), none⟩, ⟨(some 99), (.idxS (.t 96) (.t 98)), none⟩, ⟨(some 100), (.call 31 [(.c (.str [48, 49, 50, 51, 52, 53, 54, 55, 56, 57, 97, 98, 99, 100, 101, 102])), (.t 99)]), none⟩, ⟨(some 5), (.mv (.t 95)), none⟩, ⟨(some 6), (.mv (.t 100)), none⟩]) (.seq (.reg none [⟨(some 101), (.mv (.t 3)), none⟩, ⟨(some 102), (.mv (.t 5)), none⟩, ⟨(some 103), (.mm true (.t 102) (.c (.int .i64 0))), none⟩, ⟨(some 104), (.bin .shl (.t 103) (.c (.int .u64 4))), none⟩, ⟨(some 105), (.mv (.t 6)), none⟩, ⟨(some 106), (.mm true (.t 105) (.c (.int .i64 0))), none⟩, ⟨(some 107), (.bin .or (.t 104) (.t 106)), none⟩, ⟨(some 108), (.toInt .u8 (.t 107)), none⟩, ⟨(some 109), (.buildSl 5 1 [(.t 108)]), none⟩, ⟨(some 110), (.app 5 1 1 (.t 101) (.t 109)), none⟩, ⟨(some 3), (.mv (.t 110)), none⟩]) (.reg none [⟨(some 111), (.mv (.t 4)), none⟩, ⟨(some 112), (.bin .add (.t 111) (.c (.int .i64 2))), none⟩, ⟨(some 4), (.mv (.t 112)), none⟩]))) (.reg none [⟨(some 13), (.mv (.t 3)), none⟩, ⟨(some 14), (.mv (.t 0)), none⟩, ⟨(some 15), (.mv (.t 4)), none⟩, ⟨(some 16), (.idxS (.t 14) (.t 15)), none⟩, ⟨(some 17), (.buildSl 5 1 [(.t 16)]), none⟩, ⟨(some 18), (.app 5 1 1 (.t 13) (.t 17)), none⟩, ⟨(some 3), (.mv (.t 18)), none⟩]))))))))) (.reg none [⟨(some 11), (.mv (.t 4)), none⟩, ⟨(some 12), (.bin .add (.t 11) (.c (.int .i64 1))), none⟩, ⟨(some 4), (.mv (.t 12)), none⟩])))
def t_nback_0 : ACode := (.seq (.reg none [⟨(some 113), (.mv (.t 3)), none⟩, ⟨(some 114), (.toStr (.t 113)), none⟩, ⟨(some 2), (.mv (.t 114)), none⟩]) .ret)
def c_nback : ACode := (.seq (.reg none [⟨(some 2), (.mv (.c (.str []))), none⟩]) (.seq (.reg none [⟨(some 3), (.mv (.c (.con (.slice none 0 0)))), none⟩]) (.seq (.seq (.reg none [⟨(some 4), (.mv (.c (.int .i64 0))), none⟩]) (.block 0 (.loop b_nback_0))) t_nback_0)))
def r_nback : List ARes := [(.t 2)]
theorem s_nback : slimF Tryd.prog Tryd.f15 = some (c_nback, r_nback) := by kernel_rfl
def b_npath_0 : ACode := (.seq (.reg none [⟨(some 44), (.bin .lss (.t 43) (.t 42)), none⟩]) (.seq (.cond (.t 44) .skip (.exit 2)) (.seq (.block 3 (.seq (.reg none [⟨(some 45), (.ia 1 (.str []) (.t 41) (.t 43)), none⟩, ⟨(some 46), (.ld (.one (.str [])) (.t 45)), none⟩, ⟨(some 11), (.mv (.t 46)), none⟩]) (.seq (.reg none [⟨(some 47), (.mv (.t 9)), none⟩, ⟨(some 48), (.mv (.t 11)), none⟩, ⟨(some 49), (.call 10 [(.t 47), (.t 48)]), none⟩]) (.cond (.t 49) (.seq (.reg none [⟨(some 50), (.mv (.t 9)), none⟩, ⟨(some 51), (.call 16 [(.t 50), (.c (.str [46, 104, 103]))]), none⟩, ⟨(some 9), (.mv (.t 51)), none⟩]) (.exit 2)) .skip)))) (.reg none [⟨(some 52), (.bin .add (.t 43) (.c (.int .i64 1))), none⟩, ⟨(some 43), (.mv (.t 52)), none⟩]))))
def t_npath_0 : ACode := (.reg none [⟨(some 53), (.mv (.t 7)), none⟩, ⟨(some 54), (.mv (.t 8)), none⟩, ⟨(some 55), (.mv (.t 9)), none⟩, ⟨(some 56), (.ia 1 (.str []) (.t 53) (.t 54)), none⟩, ⟨none, (.st (.one (.str [])) (.t 56) (.t 55)), none⟩])
def t_npath_1 : ACode := (.reg none [⟨(some 57), (.bin .add (.t 29) (.c (.int .i64 1))), none⟩, ⟨(some 29), (.mv (.t 57)), none⟩])
def b_npath_1 : ACode := (.seq (.reg none [⟨(some 30), (.bin .lss (.t 29) (.t 28)), none⟩]) (.seq (.cond (.t 30) .skip (.exit 0)) (.seq (.block 1 (.seq (.reg none [⟨(some 31), (.mv (.t 29)), none⟩, ⟨(some 32), (.ia 1 (.str []) (.t 27) (.t 29)), none⟩, ⟨(some 33), (.ld (.one (.str [])) (.t 32)), none⟩, ⟨(some 8), (.mv (.t 31)), none⟩, ⟨(some 9), (.mv (.t 33)), none⟩]) (.seq (.reg none [⟨(some 34), (.mv (.t 9)), none⟩, ⟨(some 35), (.call 15 [(.t 34)]), none⟩, ⟨(some 9), (.mv (.t 35)), none⟩]) (.seq (.seq (.reg none [⟨(some 36), (.mv (.t 8)), none⟩, ⟨(some 37), (.mv (.t 7)), none⟩, ⟨(some 38), (.len none false (.t 37)), none⟩, ⟨(some 39), (.bin .sub (.t 38) (.c (.int .i64 1))), none⟩, ⟨(some 40), (.bin .lss (.t 36) (.t 39)), none⟩]) (.cond (.t 40) (.seq (.reg none [⟨(some 41), (.buildSl 9 1 [(.c (.str [46, 105, 46, 104, 103])), (.c (.str [46, 100, 46, 104, 103])), (.c (.str [46, 104, 103, 46, 104, 103]))]), none⟩, ⟨(some 42), (.len none false (.t 41)), none⟩, ⟨(some 43), (.mv (.c (.int .i64 0))), none⟩]) (.block 2 (.loop b_npath_0))) .skip)) t_npath_0)))) t_npath_1)))
def t_npath_2 : ACode := (.seq (.reg none [⟨(some 58), (.mv (.t 7)), none⟩, ⟨(some 59), (.call 12 [(.t 58), (.c (.str [47]))]), none⟩, ⟨(some 12), (.mv (.t 59)), none⟩]) (.seq (.seq (.reg none [⟨(some 61), (.mv (.t 12)), none⟩, ⟨(some 62), (.call 5 [(.t 61)]), none⟩, ⟨(some 60), (.mv (.t 62)), none⟩, ⟨(some 63), (.ext (.t 60) 0), none⟩, ⟨(some 64), (.ext (.t 60) 1), none⟩, ⟨(some 13), (.mv (.t 63)), none⟩, ⟨(some 14), (.mv (.t 64)), none⟩]) (.seq (.reg none [⟨(some 65), (.mv (.t 5)), none⟩, ⟨(some 66), (.un .not (.t 65)), none⟩, ⟨(some 67), (.mv (.t 66)), none⟩, ⟨(some 68), (.mv (.t 6)), (some (67, false))⟩, ⟨(some 69), (.un .not (.t 68)), (some (67, false))⟩, ⟨(some 70), (.pick (.t 67) (.c (.bool true)) (.t 69)), none⟩, ⟨(some 71), (.mv (.t 70)), none⟩, ⟨(some 72), (.mv (.t 14)), (some (71, false))⟩, ⟨(some 73), (.bin .neq (.t 72) (.c (.int .i64 0))), (some (71, false))⟩, ⟨(some 74), (.pick (.t 71) (.c (.bool true)) (.t 73)), none⟩, ⟨(some 75), (.mv (.t 74)), none⟩, ⟨(some 76), (.mv (.t 13)), (some (75, false))⟩, ⟨(some 77), (.mv (.t 0)), (some (75, false))⟩, ⟨(some 78), (.bin .neq (.t 76) (.t 77)), (some (75, false))⟩, ⟨(some 79), (.pick (.t 75) (.c (.bool true)) (.t 78)), none⟩]) (.cond (.t 79) (.seq (.reg none [⟨(some 2), (.mv (.c (.str []))), none⟩, ⟨(some 3), (.mv (.c (.int .i64 4))), none⟩]) .ret) .skip))) (.seq (.reg none [⟨(some 80), (.mv (.t 12)), none⟩, ⟨(some 2), (.mv (.t 80)), none⟩, ⟨(some 3), (.mv (.c (.int .i64 0))), none⟩]) .ret)))
def c_npath : ACode := (.seq (.reg none [⟨(some 2), (.mv (.c (.str []))), none⟩, ⟨(some 3), (.mv (.c (.int .i64 0))), none⟩]) (.seq (.reg none [⟨(some 16), (.mv (.t 0)), none⟩, ⟨(some 17), (.call 13 [(.t 16), (.c (.str [100, 97, 116, 97, 47]))]), none⟩, ⟨(some 15), (.mv (.t 17)), none⟩, ⟨(some 18), (.ext (.t 15) 0), none⟩, ⟨(some 19), (.ext (.t 15) 1), none⟩, ⟨(some 4), (.mv (.t 18)), none⟩, ⟨(some 5), (.mv (.t 19)), none⟩]) (.seq (.reg none [⟨(some 21), (.mv (.t 4)), none⟩, ⟨(some 22), (.call 14 [(.t 21), (.c (.str [46, 105]))]), none⟩, ⟨(some 20), (.mv (.t 22)), none⟩, ⟨(some 23), (.ext (.t 20) 0), none⟩, ⟨(some 24), (.ext (.t 20) 1), none⟩, ⟨(some 4), (.mv (.t 23)), none⟩, ⟨(some 6), (.mv (.t 24)), none⟩]) (.seq (.reg none [⟨(some 25), (.mv (.t 4)), none⟩, ⟨(some 26), (.call 9 [(.t 25), (.c (.str [47]))]), none⟩, ⟨(some 7), (.mv (.t 26)), none⟩]) (.seq (.seq (.reg none [⟨(some 27), (.mv (.t 7)), none⟩, ⟨(some 28), (.len none false (.t 27)), none⟩, ⟨(some 29), (.mv (.c (.int .i64 0))), none⟩]) (.block 0 (.loop b_npath_1))) t_npath_2)))))
def r_npath : List ARes := [(.t 2), (.t 3)]
theorem s_npath : slimF Tryd.prog Tryd.f7 = some (c_npath, r_npath) := by kernel_rfl
def c_nknown : ACode := (.seq (.reg none [⟨(some 0), (.mv (.c (.bool false))), none⟩]) (.seq (.reg none [⟨(some 8), (.call 5 [(.c (.str [102, 111, 111, 47, 66, 97, 114, 95, 120, 46, 99]))]), none⟩, ⟨(some 7), (.mv (.t 8)), none⟩, ⟨(some 9), (.ext (.t 7) 0), none⟩, ⟨(some 10), (.ext (.t 7) 1), none⟩, ⟨(some 1), (.mv (.t 9)), none⟩, ⟨(some 2), (.mv (.t 10)), none⟩]) (.seq (.reg none [⟨(some 12), (.call 5 [(.c (.str [97, 46, 105, 47, 46, 98]))]), none⟩, ⟨(some 11), (.mv (.t 12)), none⟩, ⟨(some 13), (.ext (.t 11) 0), none⟩, ⟨(some 14), (.ext (.t 11) 1), none⟩, ⟨(some 3), (.mv (.t 13)), none⟩, ⟨(some 4), (.mv (.t 14)), none⟩]) (.seq (.reg none [⟨(some 16), (.call 7 [(.c (.str [100, 97, 116, 97, 47, 97, 117, 126, 55, 56, 46, 99, 46, 105]))]), none⟩, ⟨(some 15), (.mv (.t 16)), none⟩, ⟨(some 17), (.ext (.t 15) 0), none⟩, ⟨(some 18), (.ext (.t 15) 1), none⟩, ⟨(some 5), (.mv (.t 17)), none⟩, ⟨(some 6), (.mv (.t 18)), none⟩]) (.seq (.reg none [⟨(some 19), (.mv (.t 2)), none⟩, ⟨(some 20), (.bin .eql (.t 19) (.c (.int .i64 0))), none⟩, ⟨(some 21), (.mv (.t 20)), none⟩, ⟨(some 22), (.mv (.t 1)), (some (21, true))⟩, ⟨(some 23), (.bin .eql (.t 22) (.c (.str [100, 97, 116, 97, 47, 102, 111, 111, 47, 95, 98, 97, 114, 95, 95, 120, 46, 99, 46, 105]))), (some (21, true))⟩, ⟨(some 24), (.pick (.t 21) (.t 23) (.c (.bool false))), none⟩, ⟨(some 25), (.mv (.t 24)), none⟩, ⟨(some 26), (.mv (.t 4)), (some (25, true))⟩, ⟨(some 27), (.bin .eql (.t 26) (.c (.int .i64 0))), (some (25, true))⟩, ⟨(some 28), (.pick (.t 25) (.t 27) (.c (.bool false))), none⟩, ⟨(some 29), (.mv (.t 28)), none⟩, ⟨(some 30), (.mv (.t 3)), (some (29, true))⟩, ⟨(some 31), (.bin .eql (.t 30) (.c (.str [100, 97, 116, 97, 47, 97, 46, 105, 46, 104, 103, 47, 126, 50, 101, 98, 46, 105]))), (some (29, true))⟩, ⟨(some 32), (.pick (.t 29) (.t 31) (.c (.bool false))), none⟩, ⟨(some 33), (.mv (.t 32)), none⟩, ⟨(some 34), (.mv (.t 6)), (some (33, true))⟩, ⟨(some 35), (.bin .eql (.t 34) (.c (.int .i64 0))), (some (33, true))⟩, ⟨(some 36), (.pick (.t 33) (.t 35) (.c (.bool false))), none⟩, ⟨(some 37), (.mv (.t 36)), none⟩, ⟨(some 38), (.mv (.t 5)), (some (37, true))⟩, ⟨(some 39), (.bin .eql (.t 38) (.c (.str [97, 117, 120, 46, 99]))), (some (37, true))⟩, ⟨(some 40), (.pick (.t 37) (.t 39) (.c (.bool false))), none⟩, ⟨(some 0), (.mv (.t 40)), none⟩]) .ret)))))
def r_nknown : List ARes := [(.t 0)]
theorem s_nknown : slimF Tryd.prog Tryd.f6 = some (c_nknown, r_nknown) := by kernel_rfl
def b_lnsize_0 : ACode := (.seq (.seq (.reg none [⟨(some 40), (.mv (.t 10)), none⟩, ⟨(some 41), (.mv (.t 0)), none⟩, ⟨(some 42), (.len none true (.t 41)), none⟩, ⟨(some 43), (.bin .lss (.t 40) (.t 42)), none⟩]) (.cond (.t 43) .skip (.exit 0))) (.seq (.block 1 (.seq (.reg none [⟨(some 46), (.mv (.t 0)), none⟩, ⟨(some 47), (.mv (.t 10)), none⟩, ⟨(some 48), (.idxS (.t 46) (.t 47)), none⟩, ⟨(some 49), (.bin .eql (.t 48) (.c (.int .u8 47))), none⟩]) (.cond (.t 49) (.reg none [⟨(some 50), (.mv (.t 9)), none⟩, ⟨(some 51), (.bin .add (.t 50) (.c (.int .i64 1))), none⟩, ⟨(some 9), (.mv (.t 51)), none⟩]) .skip))) (.reg none [⟨(some 44), (.mv (.t 10)), none⟩, ⟨(some 45), (.bin .add (.t 44) (.c (.int .i64 1))), none⟩, ⟨(some 10), (.mv (.t 45)), none⟩])))
def b_lnsize_1 : ACode := (.seq (.seq (.reg none [⟨(some 93), (.mv (.t 17)), none⟩, ⟨(some 94), (.mv (.t 2)), none⟩, ⟨(some 95), (.len none true (.t 94)), none⟩, ⟨(some 96), (.bin .lss (.t 93) (.t 95)), none⟩]) (.cond (.t 96) .skip (.exit 2))) (.seq (.block 3 (.seq (.reg none [⟨(some 99), (.mv (.t 2)), none⟩, ⟨(some 100), (.mv (.t 17)), none⟩, ⟨(some 101), (.idxS (.t 99) (.t 100)), none⟩, ⟨(some 102), (.bin .eql (.t 101) (.c (.int .u8 47))), none⟩]) (.cond (.t 102) (.reg none [⟨(some 103), (.mv (.t 16)), none⟩, ⟨(some 104), (.bin .add (.t 103) (.c (.int .i64 1))), none⟩, ⟨(some 16), (.mv (.t 104)), none⟩]) .skip))) (.reg none [⟨(some 97), (.mv (.t 17)), none⟩, ⟨(some 98), (.bin .add (.t 97) (.c (.int .i64 1))), none⟩, ⟨(some 17), (.mv (.t 98)), none⟩])))
def b_lnsize_2 : ACode := (.seq (.seq (.reg none [⟨(some 105), (.mv (.t 15)), none⟩, ⟨(some 106), (.mv (.t 11)), none⟩, ⟨(some 107), (.len none true (.t 106)), none⟩, ⟨(some 108), (.bin .lss (.t 105) (.t 107)), none⟩, ⟨(some 109), (.mv (.t 108)), none⟩, ⟨(some 110), (.mv (.t 16)), (some (109, true))⟩, ⟨(some 111), (.bin .geq (.t 110) (.c (.int .i64 (-1)))), (some (109, true))⟩, ⟨(some 112), (.pick (.t 109) (.t 111) (.c (.bool false))), none⟩]) (.cond (.t 112) .skip (.exit 4))) (.block 5 (.seq (.seq (.reg none [⟨(some 113), (.mv (.t 11)), none⟩, ⟨(some 114), (.mv (.t 15)), none⟩, ⟨(some 115), (.idxS (.t 113) (.t 114)), none⟩, ⟨(some 116), (.bin .eql (.t 115) (.c (.int .u8 47))), none⟩]) (.cond (.t 116) (.reg none [⟨(some 117), (.mv (.t 16)), none⟩, ⟨(some 118), (.bin .sub (.t 117) (.c (.int .i64 1))), none⟩, ⟨(some 16), (.mv (.t 118)), none⟩]) .skip)) (.reg none [⟨(some 119), (.mv (.t 15)), none⟩, ⟨(some 120), (.bin .add (.t 119) (.c (.int .i64 1))), none⟩, ⟨(some 15), (.mv (.t 120)), none⟩]))))
def t_lnsize_0 : ACode := (.seq (.reg (some [(0, true), (1, true), (2, false), (3, false), (4, false), (5, true), (6, true), (7, true), (8, false), (9, false), (10, false), (11, false), (12, false), (13, false), (14, true), (15, true), (16, true)]) [⟨(some 121), (.call 6 []), none⟩, ⟨(some 122), (.mv (.t 121)), none⟩, ⟨(some 123), (.mv (.t 13)), (some (122, true))⟩, ⟨(some 124), (.len none true (.t 123)), (some (122, true))⟩, ⟨(some 125), (.mv (.t 15)), (some (122, true))⟩, ⟨(some 126), (.bin .geq (.t 124) (.t 125)), (some (122, true))⟩, ⟨(some 127), (.pick (.t 122) (.t 126) (.c (.bool false))), none⟩, ⟨(some 128), (.mv (.t 127)), none⟩, ⟨(some 129), (.mv (.t 11)), (some (128, true))⟩, ⟨(some 130), (.mv (.t 15)), (some (128, true))⟩, ⟨(some 131), (.slS (.t 129) none (some (.t 130))), (some (128, true))⟩, ⟨(some 132), (.mv (.t 13)), (some (128, true))⟩, ⟨(some 133), (.mv (.t 15)), (some (128, true))⟩, ⟨(some 134), (.slS (.t 132) none (some (.t 133))), (some (128, true))⟩, ⟨(some 135), (.bin .eql (.t 131) (.t 134)), (some (128, true))⟩, ⟨(some 136), (.pick (.t 128) (.t 135) (.c (.bool false))), none⟩, ⟨(some 6), (.mv (.t 136)), none⟩]) .ret)
def t_lnsize_1 : ACode := (.seq (.reg none [⟨(some 71), (.mv (.t 2)), none⟩, ⟨(some 72), (.bin .add (.t 71) (.c (.str [47]))), none⟩, ⟨(some 73), (.mv (.t 0)), none⟩, ⟨(some 74), (.bin .add (.t 72) (.t 73)), none⟩, ⟨(some 75), (.call 5 [(.t 74)]), none⟩, ⟨(some 70), (.mv (.t 75)), none⟩, ⟨(some 76), (.ext (.t 70) 0), none⟩, ⟨(some 77), (.ext (.t 70) 1), none⟩, ⟨(some 11), (.mv (.t 76)), none⟩, ⟨(some 12), (.mv (.t 77)), none⟩]) (.seq (.reg none [⟨(some 79), (.mv (.t 2)), none⟩, ⟨(some 80), (.bin .add (.t 79) (.c (.str [47]))), none⟩, ⟨(some 81), (.mv (.t 1)), none⟩, ⟨(some 82), (.bin .add (.t 80) (.t 81)), none⟩, ⟨(some 83), (.call 5 [(.t 82)]), none⟩, ⟨(some 78), (.mv (.t 83)), none⟩, ⟨(some 84), (.ext (.t 78) 0), none⟩, ⟨(some 85), (.ext (.t 78) 1), none⟩, ⟨(some 13), (.mv (.t 84)), none⟩, ⟨(some 14), (.mv (.t 85)), none⟩]) (.seq (.seq (.reg none [⟨(some 86), (.mv (.t 12)), none⟩, ⟨(some 87), (.bin .neq (.t 86) (.c (.int .i64 0))), none⟩, ⟨(some 88), (.mv (.t 87)), none⟩, ⟨(some 89), (.mv (.t 14)), (some (88, false))⟩, ⟨(some 90), (.bin .neq (.t 89) (.c (.int .i64 0))), (some (88, false))⟩, ⟨(some 91), (.pick (.t 88) (.c (.bool true)) (.t 90)), none⟩]) (.cond (.t 91) (.seq (.reg none [⟨(some 92), (.call 6 []), none⟩, ⟨(some 6), (.mv (.t 92)), none⟩]) .ret) .skip)) (.seq (.reg none [⟨(some 15), (.mv (.c (.int .i64 0))), none⟩]) (.seq (.reg none [⟨(some 16), (.mv (.c (.int .i64 0))), none⟩]) (.seq (.seq (.reg none [⟨(some 17), (.mv (.c (.int .i64 0))), none⟩]) (.block 2 (.loop b_lnsize_1))) (.seq (.block 4 (.loop b_lnsize_2)) t_lnsize_0)))))))
def c_lnsize : ACode := (.seq (.reg none [⟨(some 6), (.mv (.c (.bool false))), none⟩]) (.seq (.reg (some [(0, false), (1, false), (2, false), (3, false), (4, false), (5, false), (6, false), (7, false), (8, false), (9, false), (10, false), (11, false), (12, false), (13, false), (14, false), (15, false), (16, false), (17, true)]) [⟨(some 18), (.mv (.t 0)), none⟩, ⟨(some 19), (.mv (.t 0)), none⟩, ⟨(some 20), (.len none true (.t 19)), none⟩, ⟨(some 21), (.mm false (.t 20) (.c (.int .i64 60))), none⟩, ⟨(some 22), (.slS (.t 18) none (some (.t 21))), none⟩, ⟨(some 23), (.mv (.t 1)), none⟩, ⟨(some 24), (.mv (.t 1)), none⟩, ⟨(some 25), (.len none true (.t 24)), none⟩, ⟨(some 26), (.mm false (.t 25) (.c (.int .i64 60))), none⟩, ⟨(some 27), (.slS (.t 23) none (some (.t 26))), none⟩, ⟨(some 28), (.mv (.t 2)), none⟩, ⟨(some 29), (.mv (.t 2)), none⟩, ⟨(some 30), (.len none true (.t 29)), none⟩, ⟨(some 31), (.mm false (.t 30) (.c (.int .i64 60))), none⟩, ⟨(some 32), (.slS (.t 28) none (some (.t 31))), none⟩, ⟨(some 0), (.mv (.t 22)), none⟩, ⟨(some 1), (.mv (.t 27)), none⟩, ⟨(some 2), (.mv (.t 32)), none⟩]) (.seq (.reg none [⟨(some 34), (.mv (.t 0)), none⟩, ⟨(some 35), (.call 5 [(.t 34)]), none⟩, ⟨(some 33), (.mv (.t 35)), none⟩, ⟨(some 36), (.ext (.t 33) 0), none⟩, ⟨(some 37), (.ext (.t 33) 1), none⟩, ⟨(some 7), (.mv (.t 36)), none⟩, ⟨(some 8), (.mv (.t 37)), none⟩]) (.seq (.seq (.reg none [⟨(some 38), (.mv (.t 8)), none⟩, ⟨(some 39), (.bin .eql (.t 38) (.c (.int .i64 0))), none⟩]) (.cond (.t 39) (.seq (.reg none [⟨(some 9), (.mv (.c (.int .i64 1))), none⟩]) (.seq (.seq (.reg none [⟨(some 10), (.mv (.c (.int .i64 0))), none⟩]) (.block 0 (.loop b_lnsize_0))) (.seq (.reg none [⟨(some 52), (.mv (.t 7)), none⟩, ⟨(some 53), (.len none true (.t 52)), none⟩, ⟨(some 54), (.mv (.t 0)), none⟩, ⟨(some 55), (.len none true (.t 54)), none⟩, ⟨(some 56), (.bin .mul (.c (.int .i64 3)) (.t 55)), none⟩, ⟨(some 57), (.bin .add (.t 56) (.c (.int .i64 10))), none⟩, ⟨(some 58), (.mv (.t 9)), none⟩, ⟨(some 59), (.bin .mul (.c (.int .i64 6)) (.t 58)), none⟩, ⟨(some 60), (.bin .add (.t 57) (.t 59)), none⟩, ⟨(some 61), (.bin .gtr (.t 53) (.t 60)), none⟩, ⟨(some 62), (.mv (.t 61)), none⟩, ⟨(some 63), (.mv (.t 7)), (some (62, false))⟩, ⟨(some 64), (.len none true (.t 63)), (some (62, false))⟩, ⟨(some 65), (.mv (.t 0)), (some (62, false))⟩, ⟨(some 66), (.len none true (.t 65)), (some (62, false))⟩, ⟨(some 67), (.bin .add (.t 66) (.c (.int .i64 7))), (some (62, false))⟩, ⟨(some 68), (.bin .lss (.t 64) (.t 67)), (some (62, false))⟩, ⟨(some 69), (.pick (.t 62) (.c (.bool true)) (.t 68)), none⟩]) (.cond (.t 69) (.seq (.reg none [⟨(some 6), (.mv (.c (.bool false))), none⟩]) .ret) .skip)))) .skip)) t_lnsize_1))))
def r_lnsize : List ARes := [(.t 6)]
theorem s_lnsize : slimF Tryd.prog Tryd.f4 = some (c_lnsize, r_lnsize) := by kernel_rfl
def c_sctn : ACode := (.seq (.reg none [⟨(some 4), (.mv (.c (.bool false))), none⟩]) (.seq (.reg none [⟨(some 5), (.mv (.t 0)), none⟩, ⟨(some 6), (.mv (.t 1)), none⟩, ⟨(some 7), (.call 53 [(.t 5), (.t 6)]), none⟩, ⟨(some 8), (.bin .geq (.t 7) (.c (.int .i64 0))), none⟩, ⟨(some 4), (.mv (.t 8)), none⟩]) .ret))
def r_sctn : List ARes := [(.t 4)]
theorem s_sctn : slimF Tryd.prog Tryd.f40 = some (c_sctn, r_sctn) := by kernel_rfl
def b_sidx_0 : ACode := (.seq (.reg none [⟨(some 9), (.bin .lss (.t 8) (.t 7)), none⟩]) (.seq (.cond (.t 9) .skip (.exit 0)) (.seq (.block 1 (.seq (.reg none [⟨(some 10), (.mv (.t 8)), none⟩, ⟨(some 5), (.mv (.t 10)), none⟩]) (.seq (.reg none [⟨(some 11), (.mv (.t 1)), none⟩, ⟨(some 12), (.mv (.t 0)), none⟩, ⟨(some 13), (.mv (.t 5)), none⟩, ⟨(some 14), (.ia 1 (.str []) (.t 12) (.t 13)), none⟩, ⟨(some 15), (.ld (.one (.str [])) (.t 14)), none⟩, ⟨(some 16), (.bin .eql (.t 11) (.t 15)), none⟩]) (.cond (.t 16) (.seq (.reg none [⟨(some 17), (.mv (.t 5)), none⟩, ⟨(some 4), (.mv (.t 17)), none⟩]) .ret) .skip)))) (.reg none [⟨(some 18), (.bin .add (.t 8) (.c (.int .i64 1))), none⟩, ⟨(some 8), (.mv (.t 18)), none⟩]))))
def t_sidx_0 : ACode := (.seq (.reg none [⟨(some 4), (.mv (.c (.int .i64 (-1)))), none⟩]) .ret)
def c_sidx : ACode := (.seq (.reg none [⟨(some 4), (.mv (.c (.int .i64 0))), none⟩]) (.seq (.seq (.reg none [⟨(some 6), (.mv (.t 0)), none⟩, ⟨(some 7), (.len none false (.t 6)), none⟩, ⟨(some 8), (.mv (.c (.int .i64 0))), none⟩]) (.block 0 (.loop b_sidx_0))) t_sidx_0))
def r_sidx : List ARes := [(.t 4)]
theorem s_sidx : slimF Tryd.prog Tryd.f53 = some (c_sidx, r_sidx) := by kernel_rfl
end Go.Proofs.YtakojeefilpibaaDoor
namespace Go.Proofs.YtakojeefilpibaaDoor
set_option linter.all false
open Go.Lib (index indexByte splitK count countB splitB cut indexAny)
def psl (c : UInt8) : List UInt8 → List (List UInt8)
  | [] => [[]]
  | b :: r => if b = c then [] :: psl c r else match psl c r with
    | h :: t => (b :: h) :: t
    | [] => [[b]]
theorem psl_ne (c : UInt8) : ∀ l, psl c l ≠ []
  | [] => by simp [psl]
  | b :: r => by
    unfold psl
    split
    · simp
    · split <;> simp
theorem psl_cons_ne {c b : UInt8} (h : b ≠ c) (r : List UInt8) : ∃ x t, psl c r = x :: t ∧ psl c (b :: r) = (b :: x) :: t := by
  cases hp : psl c r with
  | nil => exact absurd hp (psl_ne c r)
  | cons x t => exact ⟨x, t, rfl, by rw [psl, if_neg h, hp]⟩
theorem psl_cons_eq (c : UInt8) (r : List UInt8) : psl c (c :: r) = [] :: psl c r := by rw [psl, if_pos rfl]
theorem splitK_psl (c : UInt8) : ∀ l : List UInt8, splitK [c] 0 (count l [c]) l = psl c l
  | [] => by
    rw [Go.Lib.count_miss (by simp [index])]; rfl
  | b :: l => by
    have ih := splitK_psl c l
    by_cases h : b = c
    · subst h
      have hix : index (b :: l) [b] = 0 := by rw [index]; simp [List.isPrefixOf]
      rw [Go.Lib.count_cons_eq, Nat.add_comm, splitK, hix, if_neg (by decide), psl_cons_eq, ← ih]
      simp
    · obtain ⟨x, t, e1, e2⟩ := psl_cons_ne h l
      have hp : ([c] : List UInt8).isPrefixOf (b :: l) = false := by simp [List.isPrefixOf, Ne.symm h]
      have hix : index (b :: l) [c] = if index l [c] == -1 then -1 else index l [c] + 1 := by rw [index, hp]; simp
      rw [Go.Lib.count_cons_ne b c l h, e2]
      rw [e1] at ih
      by_cases hm : index l [c] = -1
      · rw [Go.Lib.count_miss hm] at ih ⊢
        simp only [splitK, List.cons.injEq] at ih ⊢
        exact ⟨⟨trivial, ih.1⟩, ih.2⟩
      · have hge := Go.Lib.index_ge l [c]
        obtain ⟨j, hj⟩ : ∃ j : Nat, index l [c] = j := ⟨(index l [c]).toNat, by omega⟩
        rw [Go.Lib.count_hit (by simp) hj, Nat.add_comm] at ih ⊢
        have hix' : index (b :: l) [c] = ((j + 1 : Nat) : Int) := by rw [hix, if_neg (fun e => hm (beq_iff_eq.1 e)), hj]; omega
        rw [splitK, hj, if_neg (fun e => hm (by rw [hj]; exact beq_iff_eq.1 e))] at ih
        rw [splitK, hix', if_neg (fun e => by have := beq_iff_eq.1 e; omega)]
        simp only [List.length_cons, List.length_nil, Nat.zero_add, Nat.add_zero, Int.toNat_natCast, List.cons.injEq, List.take_succ_cons, List.drop_succ_cons] at ih ⊢
        exact ⟨⟨trivial, ih.1⟩, ih.2⟩
theorem psl_join_len (c : UInt8) : ∀ l : List UInt8, (psl c l).length ≤ l.length + 1
  | [] => by simp [psl]
  | b :: l => by
    have ih := psl_join_len c l
    by_cases h : b = c
    · subst h; rw [psl_cons_eq]; simp; omega
    · obtain ⟨x, t, e1, e2⟩ := psl_cons_ne h l
      rw [e2]; rw [e1] at ih; simp at ih ⊢; omega
def pre1 (acc : List UInt8) : List (List UInt8) → List (List UInt8)
  | [] => [acc]
  | h :: t => (acc ++ h) :: t
def badP (q : List UInt8) : Bool := decide (q = []) || decide (q = [46]) || decide (q = [46, 46])
def ctlB (c : UInt8) : Bool := decide (c = 0) || decide (c = 10) || decide (c = 13)
def rightP (p : List UInt8) : Bool := !decide (255 < p.length) && !p.any ctlB && !(psl 47 p).any badP
theorem indexAny_nn (chars : List UInt8) : ∀ s : List UInt8, (decide (0 ≤ indexAny s chars)) = s.any fun b => chars.contains b
  | [] => rfl
  | b :: l => by
    have ih := indexAny_nn chars l
    have hg := Go.Lib.indexAny_ge chars l
    have hd : indexAny (b :: l) chars = if chars.contains b then 0 else if indexAny l chars == -1 then -1 else indexAny l chars + 1 := by rw [indexAny]
    rw [List.any_cons, ← ih, hd]
    cases hb : chars.contains b with
    | true => simp
    | false =>
      simp only [Bool.false_or, Bool.false_eq_true, if_false]
      by_cases h : indexAny l chars = -1
      · rw [if_pos (beq_iff_eq.2 h), h]
      · rw [if_neg (by simpa using h)]
        rw [Bool.eq_iff_iff]; simp; omega
theorem rightP_facts {p : List UInt8} (h : rightP p = true) : p.length ≤ 255 ∧ (∀ c ∈ p, c ≠ 0 ∧ c ≠ 10 ∧ c ≠ 13) ∧ p ≠ [] := by
  unfold rightP at h
  simp only [Bool.and_eq_true, Bool.not_eq_true', decide_eq_false_iff_not, Nat.not_lt, List.any_eq_false] at h
  refine ⟨h.1.1, fun c hc => ?_, ?_⟩
  · have := h.1.2 c hc
    simp [ctlB] at this
    exact ⟨this.1.1, this.1.2, this.2⟩
  · rintro rfl
    exact absurd (h.2 [] (by simp [psl])) (by decide)
end Go.Proofs.YtakojeefilpibaaDoor
