/- Layer 15's functions as contracts on abstract values. -/
import Derived.Test.YtcnfglnnmmhfiaaKnown15
import Derived.Test.YtcnfglnnmmhfiaaAM4
namespace Go.Proofs.Ytcnfglnnmmhfiaa
set_option linter.all false
open Go.RowKit

section
variable {P : Program} {f : FuncId} {sp : Spec}
/-- A contract out of a walk whose value lies in blocks of its own. -/
theorem fnok_of_fresh (h : ∀ xs hp r, sp xs hp = some r → r.pre → hp = [] ∧ r.hp = [] ∧ ∀ (w : World) (S : Nat → Prop) (ρ : Rho) (args : List Value), (∀ b, S b → b < w.heap.size) → ArgsOk w S ρ xs args →
    Calls P f args.toArray w fun e w' => ∃ v, e = .returned v ∧ Below w.heap.size w w' ∧ Vl w' (fun b => S b ∨ (w.heap.size ≤ b ∧ b < w'.heap.size)) ρ r.v v) : FnOk P f sp := by
  intro xs hp r hs hp' w S ρ args H ha
  obtain ⟨rfl, hr, hc⟩ := h xs hp r hs hp'
  refine (hc w S ρ args H.slt ha).mono ?_
  rintro e w' ⟨v, rfl, hb, hv⟩
  obtain ⟨H', hE⟩ := H.same (S' := fun b => S b ∨ (w.heap.size ≤ b ∧ b < w'.heap.size)) hb (fun _ h => .inl h) (fun _ h => h)
  exact ⟨v, _, ρ, rfl, hv, by rw [hr]; exact H', hE, fun b h => h.elim .inl (fun h => .inr (.inl h.1))⟩
theorem Own.rw1 {w : World} {base : Nat} {e : TypeId} {A : Option Addr} {c : Nat} {l : List UInt8} (h : Own w base e A c l) : Rw w e ⟨A, c, l.length, 1⟩ (l.map U) := by
  have h1 := h.cap
  have h2 := h.cmax
  refine ⟨by simp, ?_⟩
  rcases h.2 with ⟨hv, h0⟩ | ⟨g, cap, cur, hv, hb, hg, hnc, hm, hsz, htake⟩
  · injection hv with h1 h2 h3
    exact .inl ⟨h1, h2, h3⟩
  · injection hv with h1 h2 h3
    subst h3
    exact .inr ⟨g, cur, (0, 0), h1, hg, .inl rfl, by assumption, by assumption, hsz, htake⟩
/-- A contract out of a walk that hands back a new row. -/
theorem fnok_own (h : ∀ xs hp r, sp xs hp = some r → r.pre → hp = [] ∧ ∃ e l, r.hp = [.row e 1 0 (Bs l)] ∧ ∀ (w : World) (S : Nat → Prop) (ρ : Rho) (args : List Value), (∀ b, S b → b < w.heap.size) → ArgsOk w S ρ xs args →
    Calls P f args.toArray w fun e' w' => ∃ v A c, e' = .returned v ∧ Below w.heap.size w w' ∧ Own w' w.heap.size e A c l ∧ ∀ (w : World) (S : Nat → Prop) (ρ : Rho), ρ 0 0 = some ⟨A, c, l.length, 1⟩ → Vl w S ρ r.v v) : FnOk P f sp := by
  intro xs hp r hs hp' w S ρ args H ha
  obtain ⟨rfl, e, l, k2, hc⟩ := h xs hp r hs hp'
  refine (hc w S ρ args H.slt ha).mono ?_
  rintro e' w' ⟨v, A, c, rfl, hb, ho, hv⟩
  have hn : ∀ u, ρ 0 u = none := fun u => H.new 0 (Nat.zero_le _) u
  obtain ⟨H', hE⟩ := H.push (w' := w') (S' := S) (ρ' := rset ρ 0 0 ⟨A, c, l.length, 1⟩) (o' := .row e 1 0 (Bs l)) hb (fun _ h => h) (fun _ h => .inl h)
    (fun i v L hL => by
      unfold rset
      by_cases hi : i = 0 ∧ v = 0
      · obtain ⟨rfl, rfl⟩ := hi; rw [hn] at hL; cases hL
      · rw [if_neg hi]; exact hL)
    (fun i v hi => by unfold rset; rw [if_neg (by intro hh; exact hi hh.1)])
    ⟨⟨A, c, l.length, 1⟩, l.map U, by simp [rset], (by simp [Bs] : l.length = (Bs l).length), rfl, ho.rw1, css_bytes l, fun b hb hS => by
      have := (ho.lt b hb).1
      have := H.slt _ hS; omega⟩
    (fun v hv => by
      have hv0 : 0 < v := hv
      show rset ρ 0 0 _ 0 v = none
      unfold rset; rw [if_neg (by intro hh; omega)]; exact hn v)
    (fun b hb => by
      have hb' : ((rset ρ 0 0 ⟨A, c, l.length, 1⟩ 0 0).bind fun L => ablk L.A) = some b := hb
      have : ablk A = some b := by simpa [rset] using hb'
      exact (ho.lt b this).1)
  exact ⟨_, S, _, rfl, hv _ _ _ (by simp [rset]), by rw [k2]; exact H', hE, fun b h => .inl h⟩
end

/-! ### Hunks -/
abbrev Hk3 := Int × Int × List UInt8
def hkV (h : Hk3) : AV := .agg [(1, .int .i64 h.1), (1, .int .i64 h.2.1), (1, .sl 1 (Bs h.2.2))]
def unHk : AV → Hk3
  | .agg [(1, .int .i64 f), (1, .int .i64 t), (1, .sl 1 bs)] => (f, t, unB bs)
  | _ => (0, 0, [])
theorem unHk_hkV (h : Hk3) : unHk (hkV h) = h := by
  obtain ⟨a, b, l⟩ := h
  simp [unHk, hkV, unB_Bs]
def recH (h : Hk3) : HRec := ⟨h.1, h.2.1, none, 0, h.2.2⟩
def prnH (hs : List Hk3) : List UInt8 := printB (hs.map recH)
theorem prnH_recs : ∀ (rs : List HRec), printB rs = prnH (rs.map fun r => (r.f, r.t, r.b)) := by
  intro rs
  induction rs with
  | nil => rfl
  | cons r rs ih => simp only [printB, prnH, List.flatMap_cons, List.map_cons] at ih ⊢; rw [ih]; rfl
theorem css_hk {w : World} {S : Nat → Prop} : ∀ (hs : List Hk3) (us : List Value), Css w S rho0 (prs 3 (hs.map hkV)) us → ∃ rs : List HRec, (rs.map fun r => (r.f, r.t, r.b)) = hs ∧ us = hcells rs ∧ ∀ r ∈ rs, Rd w r.A r.b := by
  intro hs
  induction hs with
  | nil => intro us h; exact ⟨[], rfl, h, fun x hx => by simp at hx⟩
  | cons x hs ih =>
    intro us h
    obtain ⟨u1, u2, rfl, h1, h2, h3⟩ := h
    obtain ⟨rs, x1, x2, x3⟩ := ih u2 h3
    obtain ⟨f, t, l⟩ := x
    obtain ⟨a1, r1, rfl, l1, c1, k1⟩ := h2.parts
    obtain ⟨a2, r2, rfl, l2, c2, k2⟩ := k1
    obtain ⟨a3, r3, rfl, l3, c3, rfl⟩ := k2
    obtain rfl : a1 = [.int .i64 f] := by cases c1; rfl
    obtain rfl : a2 = [.int .i64 t] := by cases c2; rfl
    obtain ⟨v, rfl⟩ : ∃ v, a3 = [v] := by
      match a3, l3 with
      | [v], _ => exact ⟨v, rfl⟩
    obtain ⟨A, n, c, us', rfl, hM⟩ := Mem.of_sl c3
    obtain ⟨q1, q2⟩ := hM.rd
    subst q2
    refine ⟨⟨f, t, A, c, l⟩ :: rs, by simp [x1], by simp [x2, hcells, HRec.cells], fun y hy => ?_⟩
    rcases List.mem_cons.1 hy with rfl | hy
    · exact q1
    · exact x3 y hy
def bodyH (hs : List Hk3) : Nat := (hs.map fun h => h.2.2.length).sum
theorem bodyH_recs : ∀ (rs : List HRec), bodyLen rs = bodyH (rs.map fun r => (r.f, r.t, r.b)) := by
  intro rs
  unfold bodyLen bodyH
  rw [List.map_map]; rfl
def printS : Spec := fun xs hp => match xs, hp with
  | [.sl 3 ps], [] => some ⟨.own 0 0, [.row 5 1 0 (Bs (prnH (ps.map unHk)))], ps = (ps.map unHk).map hkV ∧ ps.length ≤ 1048576 ∧ bodyH (ps.map unHk) ≤ 1099511627776⟩
  | _, _ => none
theorem print_ok : FnOk Try.prog 6 printS := by
  refine fnok_own fun xs0 hp r hs hp' => ?_
  unfold printS at hs
  split at hs
  · rename_i ps
    injection hs with hs; subst hs
    obtain ⟨p1, p2, p3⟩ := hp'
    refine ⟨rfl, _, _, rfl, fun w S ρ args hS ha => ?_⟩
    obtain ⟨v, vs, rfl, hv, hr⟩ := ha.get _ _ rfl
    obtain rfl := hr.none
    generalize ps.map unHk = hs at *
    subst p1
    obtain ⟨A, n, c, us, rfl, hM⟩ := Mem.of_sl hv.sl
    obtain ⟨rs, x1, x2, x3⟩ := css_hk hs us hM.css
    have hxl : rs.length = hs.length := by rw [← x1, List.length_map]
    have hrd : RdH w A rs := by
      refine ⟨fun h0 => ?_, x3⟩
      obtain ⟨b, o, e, hc⟩ := hM.cell (by rw [x2]; exact h0)
      refine ⟨b, o, e, fun j u hj => ?_⟩
      rw [← x2] at hj
      rw [hc j (List.getElem?_eq_some_iff.1 hj).1, hj]
    have hn := hM.len
    rw [List.length_map] at hn p2
    refine (refPrint A n c rs w (by rw [hn, hxl]) hrd (by omega) (by rw [bodyH_recs, x1]; exact p3)).mono ?_
    rintro e w' ⟨A', c', rfl, ho, hb⟩
    rw [prnH_recs, x1] at ho ⊢
    exact ⟨_, _, _, rfl, hb, ho, fun w S ρ hL => .inr ⟨_, .own 0 0 _ hL, rfl⟩⟩
  · cases hs
def applyS : Spec := fun xs hp => match xs, hp with
  | [.sl 1 bs, .sl 1 ps, .int .i64 most], [] => some ⟨.tup [.own 0 0, .int .i64 ((applyRes (unB bs) (unB ps) most).2 : Int)], [.row 5 1 0 (Bs (applyRes (unB bs) (unB ps) most).1)], bs = Bs (unB bs) ∧ ps = Bs (unB ps) ∧ 0 < ps.length ∧ bs.length + ps.length ≤ 1099511627776⟩
  | _, _ => none
theorem apply_ok : FnOk Try.prog 5 applyS := by
  refine fnok_own fun xs0 hp r hs hp' => ?_
  unfold applyS at hs
  split at hs
  · rename_i bs ps most
    injection hs with hs; subst hs
    obtain ⟨p1, p2, p3, p4⟩ := hp'
    refine ⟨rfl, _, _, rfl, fun w S ρ args hS ha => ?_⟩
    obtain ⟨v, vs, rfl, hv, hr⟩ := ha.get _ _ rfl
    obtain ⟨v2, vs, rfl, hv2, hr⟩ := hr.get _ _ rfl
    obtain ⟨v3, vs, rfl, hv3, hr⟩ := hr.get _ _ rfl
    obtain rfl := hr.none
    obtain rfl := hv3.int
    generalize unB bs = b at *
    generalize unB ps = p at *
    subst p1 p2
    rw [Bs_len] at p3
    rw [Bs_len, Bs_len] at p4
    obtain ⟨A, n, c, us, rfl, hM⟩ := Mem.of_sl hv.sl
    obtain ⟨A2, n2, c2, us2, rfl, hM2⟩ := Mem.of_sl hv2.sl
    obtain ⟨q1, q2⟩ := hM.rd
    obtain ⟨q3, q4⟩ := hM2.rd
    have m1 := hM.cap
    have m2 := hM2.cap
    refine (patchApply A A2 n n2 c c2 most b p w q2 q4 q1 q3 (by omega) (by omega) hM2.max (by omega) (fun k hk => ?_)).mono ?_
    · obtain ⟨g, o, rfl, hc⟩ := q3 p3
      have : k = g := by simpa [ablk] using hk.symm
      subst this
      exact World.block_lt_of_cell? w _ (hc 0 p3)
    · rintro e w' ⟨A', c', rfl, ho, hb⟩
      refine ⟨_, _, _, rfl, hb, ho, fun w S ρ hL => ⟨_, rfl, rfl, fun i hi => ?_⟩⟩
      match i, hi with
      | 0, _ => exact .inr ⟨_, .own 0 0 _ hL, rfl⟩
      | 1, _ => exact Vl.int' _ _
  · cases hs
def knownS : Spec := fun xs hp => match xs, hp with
  | [], [] => some ⟨.bool true, [], True⟩
  | _, _ => none
theorem known_ok : FnOk Try.prog 7 knownS := by
  refine fnok_of_calls fun xs0 hp r hs hp' => ?_
  unfold knownS at hs
  split at hs
  · injection hs with hs; subst hs
    refine ⟨rfl, rfl, fun w S ρ args hS ha => ?_⟩
    obtain rfl := ha.none
    refine (known_calls w).mono ?_
    rintro e w' ⟨rfl, hb⟩
    exact ⟨_, rfl, hb, fun w' S ρ => Vl.bool' _⟩
  · cases hs
/-! tramway/tramwaylaw15.few -/
def c_few : ACode := (.seq (.reg none [⟨(some 2), (.mv (.c (.con (.slice none 0 0)))), none⟩]) (.seq (.reg none [⟨(some 3), (.mv (.t 0)), none⟩, ⟨(some 4), (.mv (.t 0)), none⟩, ⟨(some 5), (.len none false (.t 4)), none⟩, ⟨(some 6), (.mm false (.t 5) (.c (.int .i64 1000))), none⟩, ⟨(some 7), (.sl 1 (.t 3) none (some (.t 6))), none⟩, ⟨(some 2), (.mv (.t 7)), none⟩]) .ret))
def r_few : List ARes := [(.t 2)]
theorem s_few : slimF Try.prog Try.f4 = some (c_few, r_few) := by kernel_rfl
def fewS : Spec := fun xs hp => match xs, hp with
  | [.sl 1 bs], [] => some ⟨.sl 1 (bs.take 1000), [], True⟩
  | _, _ => none
theorem few_ok : FnOk Try.prog 4 fewS := by
  refine fn_slim2 Try.func4 s_few (Φ := phiL []) phi_nil ?_
  intro xs hp r hs hp'
  unfold fewS at hs
  split at hs
  · injection hs with hs; subst hs
    rename_i bs
    refine ⟨len_le (by kernel_rfl), ?_⟩
    simp only [c_few, r_few, b_scope, b_gn, b_gr, b_gx, b_skip, b_reg, b_draw, b_seq, b_cond, b_block, b_loop, b_exit, b_ret, b_nil, b_op, b_gt, b_gf, b_dnil, b_dop, b_dgt, b_dgf, b_aq, isB_t, isB_u, isB_f, isB_g, isB_p, isU_t, isU_b, ifB_t, ifB_f, b_tn, b_tx, b_tr, b_in, b_ir, b_ix, b_rn, b_rr, b_pt, b_pn, b_pi, b_pv, b_of, b_mk0, b_mk1, b_lk, b_put, nR0, nRs, nRn, sR0, sRs, sRn, sRm, topR, hp_toS, lk_toS, ev_toS, ev_c, Nat.reduceDiv, Nat.reduceMod, exD, AOp.isH, keepN, preB, astep, stV, stN, stE, stC, aval, anew, aElems, frzS, frzH, aeff, slots, aret, ares, aress, AV.isTup, n_0, w_0, n_1, w_1, n_2, w_2, n_3, w_3, n_4, w_4, n_5, w_5, n_6, w_6, n_7, w_7, n_8, w_8, n_9, w_9, n_10, w_10, n_11, w_11, n_12, w_12, n_13, w_13, n_14, w_14, n_15, w_15, ofC_i, ofC_b, ofC_s, ofC_U, getD_mapU, getD_Bs, Bs_len, Int.toNat_natCast, opd, pt, tk, subp, rdP, Rt.size, Rt.isAgg, Rt.zv, aBin, aInt, aStr, arI, aUn, aToInt, aToStr, aIdxS, zv, aIdxA, aIa, aIaA, aFa, aLd, aFld, pparts, aLo, aHi, cutL, aSlS, aSl, aExt, aNck, aNilc, AV.isStr, aLen, AV.one, AV.multi, pureB, szOk, psz, drp, spl, aEqB, aEqA, aMm, aMkfn, aMkif, aBuild, toV, aBuildA, wrP, unparts, view, nilS, St.ev, lk, St.put, St.pin, St.pinV, acall0_if, acall1, acall2, acall3_none, acall3_if, acall3b, emp3, pv, pvr, pvs, isP_nil, isP_cons, bor, bor0, bor1, phiL_nil, phiL_at, tau, lentO, okIds, flatC, flatB, flatOs, flatO, place, setAll_nil, setAll_cons, nodupB, renObj, closeIds, addNew, idsOf, idsObj, posOf, lenOk_0, lenOk_1, lenOk_2, lenOk_3, lenOk_4, lenOk_8, ↓reduceIte, Option.isSome_none, Option.isSome_some, Bool.or_true, Bool.true_or,  Nat.reduceEqDiff, Nat.reduceBEq, Nat.reduceSub, Nat.reduceLT, beq_self_eq_true, List.map, List.set, List.map_cons, List.map_nil, List.flatMap_cons, List.flatMap_nil, List.flatten_cons, List.flatten_nil, true_and, and_true, List.length_cons, List.length_nil, Nat.reduceAdd, Nat.reduceLeDiff, List.nil_append, List.cons_append, List.append_nil, Option.map, mapO, ren, kp, kpI, ent, nilG, Option.bind, List.range, List.range.loop, List.getElem?_cons_zero, List.getElem?_cons_succ, List.getElem?_nil, List.getD_cons_zero, List.getD_cons_succ, List.drop_zero, List.drop_succ_cons, List.drop_nil, List.take_zero, List.take_succ_cons, List.all_cons, List.all_nil, List.isEmpty_nil, List.isEmpty_cons, Bool.and_true, Bool.true_and, Bool.not_true, Bool.not_false, List.contains_nil, reduceCtorEq, List.contains_cons, Bool.or_false, Bool.false_or, eq_self, forall_const, false_implies, Bool.false_eq_true, Nat.le_refl, List.length_map, List.length_set, List.length_replicate, and_self, implies_true, Bool.and_self, Bool.false_and, Bool.and_false, finP, finI, List.take_zero, Int.cast_ofNat_Int, decide_true, decide_false, Int.reduceEq, Int.reduceNe, Int.reduceLT, Int.reduceLE, Int.reduceToNat, bq_t, bq_f, bq_u, bq_g]
    rcases Nat.le_total bs.length 1000 with h | h
    · rw [show min (bs.length : Int) 1000 = (bs.length : Int) by omega, List.take_of_length_le h]
      simp only [Int.toNat_natCast, List.drop_zero, List.take_length, b_scope, b_gn, b_gr, b_gx, b_skip, b_reg, b_draw, b_seq, b_cond, b_block, b_loop, b_exit, b_ret, b_nil, b_op, b_gt, b_gf, b_dnil, b_dop, b_dgt, b_dgf, b_aq, isB_t, isB_u, isB_f, isB_g, isB_p, isU_t, isU_b, ifB_t, ifB_f, b_tn, b_tx, b_tr, b_in, b_ir, b_ix, b_rn, b_rr, b_pt, b_pn, b_pi, b_pv, b_of, b_mk0, b_mk1, b_lk, b_put, nR0, nRs, nRn, sR0, sRs, sRn, sRm, topR, hp_toS, lk_toS, ev_toS, ev_c, Nat.reduceDiv, Nat.reduceMod, exD, AOp.isH, keepN, preB, astep, stV, stN, stE, stC, aval, anew, aElems, frzS, frzH, aeff, slots, aret, ares, aress, AV.isTup, n_0, w_0, n_1, w_1, n_2, w_2, n_3, w_3, n_4, w_4, n_5, w_5, n_6, w_6, n_7, w_7, n_8, w_8, n_9, w_9, n_10, w_10, n_11, w_11, n_12, w_12, n_13, w_13, n_14, w_14, n_15, w_15, ofC_i, ofC_b, ofC_s, ofC_U, getD_mapU, getD_Bs, Bs_len, Int.toNat_natCast, opd, pt, tk, subp, rdP, Rt.size, Rt.isAgg, Rt.zv, aBin, aInt, aStr, arI, aUn, aToInt, aToStr, aIdxS, zv, aIdxA, aIa, aIaA, aFa, aLd, aFld, pparts, aLo, aHi, cutL, aSlS, aSl, aExt, aNck, aNilc, AV.isStr, aLen, AV.one, AV.multi, pureB, szOk, psz, drp, spl, aEqB, aEqA, aMm, aMkfn, aMkif, aBuild, toV, aBuildA, wrP, unparts, view, nilS, St.ev, lk, St.put, St.pin, St.pinV, acall0_if, acall1, acall2, acall3_none, acall3_if, acall3b, emp3, pv, pvr, pvs, isP_nil, isP_cons, bor, bor0, bor1, phiL_nil, phiL_at, tau, lentO, okIds, flatC, flatB, flatOs, flatO, place, setAll_nil, setAll_cons, nodupB, renObj, closeIds, addNew, idsOf, idsObj, posOf, lenOk_0, lenOk_1, lenOk_2, lenOk_3, lenOk_4, lenOk_8, ↓reduceIte, Option.isSome_none, Option.isSome_some, Bool.or_true, Bool.true_or,  Nat.reduceEqDiff, Nat.reduceBEq, Nat.reduceSub, Nat.reduceLT, beq_self_eq_true, List.map, List.set, List.map_cons, List.map_nil, List.flatMap_cons, List.flatMap_nil, List.flatten_cons, List.flatten_nil, true_and, and_true, List.length_cons, List.length_nil, Nat.reduceAdd, Nat.reduceLeDiff, List.nil_append, List.cons_append, List.append_nil, Option.map, mapO, ren, kp, kpI, ent, nilG, Option.bind, List.range, List.range.loop, List.getElem?_cons_zero, List.getElem?_cons_succ, List.getElem?_nil, List.getD_cons_zero, List.getD_cons_succ, List.drop_zero, List.drop_succ_cons, List.drop_nil, List.take_zero, List.take_succ_cons, List.all_cons, List.all_nil, List.isEmpty_nil, List.isEmpty_cons, Bool.and_true, Bool.true_and, Bool.not_true, Bool.not_false, List.contains_nil, reduceCtorEq, List.contains_cons, Bool.or_false, Bool.false_or, eq_self, forall_const, false_implies, Bool.false_eq_true, Nat.le_refl, List.length_map, List.length_set, List.length_replicate, and_self, implies_true, Bool.and_self, Bool.false_and, Bool.and_false, finP, finI, List.take_zero, Int.cast_ofNat_Int, decide_true, decide_false, Int.reduceEq, Int.reduceNe, Int.reduceLT, Int.reduceLE, Int.reduceToNat, bq_t, bq_f, bq_u, bq_g]
      (first | omega | (simp only [lenOk, bytesOk, inI, IntKind.bits, List.length_append, Bs_len, List.length_cons, List.length_nil, List.length_map, List.length_take, List.length_drop, List.length_replicate]; omega))
    · rw [show min (bs.length : Int) 1000 = 1000 by omega]
      simp only [Int.reduceToNat, List.drop_zero, b_scope, b_gn, b_gr, b_gx, b_skip, b_reg, b_draw, b_seq, b_cond, b_block, b_loop, b_exit, b_ret, b_nil, b_op, b_gt, b_gf, b_dnil, b_dop, b_dgt, b_dgf, b_aq, isB_t, isB_u, isB_f, isB_g, isB_p, isU_t, isU_b, ifB_t, ifB_f, b_tn, b_tx, b_tr, b_in, b_ir, b_ix, b_rn, b_rr, b_pt, b_pn, b_pi, b_pv, b_of, b_mk0, b_mk1, b_lk, b_put, nR0, nRs, nRn, sR0, sRs, sRn, sRm, topR, hp_toS, lk_toS, ev_toS, ev_c, Nat.reduceDiv, Nat.reduceMod, exD, AOp.isH, keepN, preB, astep, stV, stN, stE, stC, aval, anew, aElems, frzS, frzH, aeff, slots, aret, ares, aress, AV.isTup, n_0, w_0, n_1, w_1, n_2, w_2, n_3, w_3, n_4, w_4, n_5, w_5, n_6, w_6, n_7, w_7, n_8, w_8, n_9, w_9, n_10, w_10, n_11, w_11, n_12, w_12, n_13, w_13, n_14, w_14, n_15, w_15, ofC_i, ofC_b, ofC_s, ofC_U, getD_mapU, getD_Bs, Bs_len, Int.toNat_natCast, opd, pt, tk, subp, rdP, Rt.size, Rt.isAgg, Rt.zv, aBin, aInt, aStr, arI, aUn, aToInt, aToStr, aIdxS, zv, aIdxA, aIa, aIaA, aFa, aLd, aFld, pparts, aLo, aHi, cutL, aSlS, aSl, aExt, aNck, aNilc, AV.isStr, aLen, AV.one, AV.multi, pureB, szOk, psz, drp, spl, aEqB, aEqA, aMm, aMkfn, aMkif, aBuild, toV, aBuildA, wrP, unparts, view, nilS, St.ev, lk, St.put, St.pin, St.pinV, acall0_if, acall1, acall2, acall3_none, acall3_if, acall3b, emp3, pv, pvr, pvs, isP_nil, isP_cons, bor, bor0, bor1, phiL_nil, phiL_at, tau, lentO, okIds, flatC, flatB, flatOs, flatO, place, setAll_nil, setAll_cons, nodupB, renObj, closeIds, addNew, idsOf, idsObj, posOf, lenOk_0, lenOk_1, lenOk_2, lenOk_3, lenOk_4, lenOk_8, ↓reduceIte, Option.isSome_none, Option.isSome_some, Bool.or_true, Bool.true_or,  Nat.reduceEqDiff, Nat.reduceBEq, Nat.reduceSub, Nat.reduceLT, beq_self_eq_true, List.map, List.set, List.map_cons, List.map_nil, List.flatMap_cons, List.flatMap_nil, List.flatten_cons, List.flatten_nil, true_and, and_true, List.length_cons, List.length_nil, Nat.reduceAdd, Nat.reduceLeDiff, List.nil_append, List.cons_append, List.append_nil, Option.map, mapO, ren, kp, kpI, ent, nilG, Option.bind, List.range, List.range.loop, List.getElem?_cons_zero, List.getElem?_cons_succ, List.getElem?_nil, List.getD_cons_zero, List.getD_cons_succ, List.drop_zero, List.drop_succ_cons, List.drop_nil, List.take_zero, List.take_succ_cons, List.all_cons, List.all_nil, List.isEmpty_nil, List.isEmpty_cons, Bool.and_true, Bool.true_and, Bool.not_true, Bool.not_false, List.contains_nil, reduceCtorEq, List.contains_cons, Bool.or_false, Bool.false_or, eq_self, forall_const, false_implies, Bool.false_eq_true, Nat.le_refl, List.length_map, List.length_set, List.length_replicate, and_self, implies_true, Bool.and_self, Bool.false_and, Bool.and_false, finP, finI, List.take_zero, Int.cast_ofNat_Int, decide_true, decide_false, Int.reduceEq, Int.reduceNe, Int.reduceLT, Int.reduceLE, Int.reduceToNat, bq_t, bq_f, bq_u, bq_g]
      (first | omega | (simp only [lenOk, bytesOk, inI, IntKind.bits, List.length_append, Bs_len, List.length_cons, List.length_nil, List.length_map, List.length_take, List.length_drop, List.length_replicate]; omega))
  · cases hs
end Go.Proofs.Ytcnfglnnmmhfiaa
