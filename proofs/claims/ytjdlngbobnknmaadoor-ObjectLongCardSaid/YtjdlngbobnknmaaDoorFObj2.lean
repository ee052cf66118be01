/- Layer 9's functions as contracts on abstract values: kinds, digits. -/
import Derived.Test.YtjdlngbobnknmaaDoorFObj
namespace Go.Proofs.YtjdlngbobnknmaaDoor
set_option linter.all false
open Go.RowKit
theorem ndec_ok : FnOk Tryd.prog 22 itoaS := by
  refine fn_slim2 Tryd.func22 s_ndec (Φ := phiL [(35, [], itoaS)]) (phi_cons itoa_ok (by kernel_rfl) phi_nil) ?_
  intro xs hp r hs hp'
  unfold itoaS at hs
  split at hs
  · injection hs with hs; subst hs
    rename_i k
    refine ⟨len_le (by kernel_rfl), ?_⟩
    simp only [c_ndec, r_ndec, itoaS, b_scope, b_gn, b_gr, b_gx, b_skip, b_reg, b_draw, b_seq, b_cond, b_block, b_loop, b_exit, b_ret, b_nil, b_op, b_gt, b_gf, b_dnil, b_dop, b_dgt, b_dgf, b_aq, isB_t, isB_u, isB_f, isB_g, isB_p, isU_t, isU_b, ifB_t, ifB_f, b_tn, b_tx, b_tr, b_in, b_ir, b_ix, b_rn, b_rr, b_pt, b_pn, b_pi, b_pv, b_of, b_mk0, b_mk1, b_lk, b_put, nR0, nRs, nRn, sR0, sRs, sRn, sRm, topR, hp_toS, lk_toS, ev_toS, ev_c, Nat.reduceDiv, Nat.reduceMod, exD, AOp.isH, keepN, preB, astep, stV, stN, stE, stC, aval, anew, aElems, frzS, frzH, aeff, slots, aret, ares, aress, AV.isTup, n_0, w_0, n_1, w_1, n_2, w_2, n_3, w_3, n_4, w_4, n_5, w_5, n_6, w_6, n_7, w_7, n_8, w_8, n_9, w_9, n_10, w_10, n_11, w_11, n_12, w_12, n_13, w_13, n_14, w_14, n_15, w_15, eqFs, aEqS, ofC_i, ofC_b, ofC_s, ofC_U, getD_mapU, getD_Bs, Bs_len, Int.toNat_natCast, opd, pt, tk, subp, rdP, Rt.size, Rt.isAgg, Rt.zv, aBin, aInt, aStr, arI, aUn, aToInt, aToStr, aIdxS, zv, aIdxA, aIa, aIaA, aFa, aLd, aFld, pparts, aLo, aHi, cutL, aSlS, aSl, aExt, aNck, aNilc, AV.isStr, aLen, AV.one, AV.multi, pureB, szOk, psz, drp, spl, aEqB, aEqA, aMm, aMkfn, aMkif, aBuild, toV, aBuildA, wrP, unparts, view, nilS, St.ev, lk, St.put, St.pin, St.pinV, acall0_if, acall1, acall2, acall3_none, acall3_if, acall3b, emp3, pv, pvr, pvs, isP_nil, isP_cons, bor, bor0, bor1, phiL_nil, phiL_at, tau, lentO, okIds, flatC, flatB, flatOs, flatO, place, setAll_nil, setAll_cons, nodupB, renObj, closeIds, addNew, idsOf, idsObj, posOf, lenOk_0, lenOk_1, lenOk_2, lenOk_3, lenOk_4, lenOk_8, ↓reduceIte, Option.isSome_none, Option.isSome_some, Bool.or_true, Bool.true_or,  Nat.reduceEqDiff, Nat.reduceBEq, Nat.reduceSub, Nat.reduceLT, beq_self_eq_true, List.map, List.set, List.map_cons, List.map_nil, List.flatMap_cons, List.flatMap_nil, List.flatten_cons, List.flatten_nil, true_and, and_true, List.length_cons, List.length_nil, Nat.reduceAdd, Nat.reduceLeDiff, List.nil_append, List.cons_append, List.append_nil, Option.map, mapO, ren, kp, kpI, ent, nilG, Option.bind, List.range, List.range.loop, List.getElem?_cons_zero, List.getElem?_cons_succ, List.getElem?_nil, List.getD_cons_zero, List.getD_cons_succ, List.drop_zero, List.drop_succ_cons, List.drop_nil, List.take_zero, List.take_succ_cons, List.all_cons, List.all_nil, List.isEmpty_nil, List.isEmpty_cons, Bool.and_true, Bool.true_and, Bool.not_true, Bool.not_false, List.contains_nil, reduceCtorEq, List.contains_cons, Bool.or_false, Bool.false_or, eq_self, forall_const, false_implies, Bool.false_eq_true, Nat.le_refl, List.length_map, List.length_set, List.length_replicate, and_self, implies_true, Bool.and_self, Bool.false_and, Bool.and_false, finP, finI, List.take_zero, Int.cast_ofNat_Int, decide_true, decide_false, Int.reduceEq, Int.reduceNe, Int.reduceLT, Int.reduceLE, Int.reduceToNat, bq_t, bq_f, bq_u, bq_g]
    first | exact hp' | exact ⟨hp', rfl⟩ | trivial
  · cases hs
/-- A word's kind. -/
def kindN (s : List UInt8) : Int := if wordL 1 = s then 1 else if wordL 2 = s then 2 else if wordL 3 = s then 3 else if wordL 4 = s then 4 else 0
theorem kindN_at {s : List UInt8} {k : Nat} (h1 : 1 ≤ k) (h2 : k ≤ 4) (h : wordL k = s) : kindN s = k := by
  subst h
  match k, h1, h2 with
  | 1, _, _ => rfl
  | 2, _, _ => rfl
  | 3, _, _ => rfl
  | 4, _, _ => rfl
theorem kindN_no {s : List UInt8} (h : ∀ j : Nat, 1 ≤ j → j < 5 → wordL j ≠ s) : kindN s = 0 := by
  unfold kindN
  have e1 : wordL 1 ≠ s := h 1 (by omega) (by omega)
  have e2 : wordL 2 ≠ s := h 2 (by omega) (by omega)
  have e3 : wordL 3 ≠ s := h 3 (by omega) (by omega)
  have e4 : wordL 4 ≠ s := h 4 (by omega) (by omega)
  rw [if_neg e1, if_neg e2, if_neg e3, if_neg e4]
def kindS : Spec := fun xs hp => match xs, hp with
  | [.str s], [] => some ⟨.int .i64 (kindN s), [], True⟩
  | _, _ => none
theorem okind_ok : FnOk Tryd.prog 10 kindS := by
  refine fn_slim2 Tryd.func10 s_okind (Φ := phiL [(9, [], wordS)]) (phi_cons oword_ok (by kernel_rfl) phi_nil) ?_
  intro xs hp r hs hp'
  unfold kindS at hs
  split at hs
  · injection hs with hs; subst hs
    rename_i s
    refine ⟨len_le (by kernel_rfl), ?_⟩
    simp only [c_okind, b_scope, b_gn, b_gr, b_gx, b_skip, b_reg, b_draw, b_seq, b_cond, b_block, b_loop, b_exit, b_ret, b_nil, b_op, b_gt, b_gf, b_dnil, b_dop, b_dgt, b_dgf, b_aq, isB_t, isB_u, isB_f, isB_g, isB_p, isU_t, isU_b, ifB_t, ifB_f, b_tn, b_tx, b_tr, b_in, b_ir, b_ix, b_rn, b_rr, b_pt, b_pn, b_pi, b_pv, b_of, b_mk0, b_mk1, b_lk, b_put, nR0, nRs, nRn, sR0, sRs, sRn, sRm, topR, hp_toS, lk_toS, ev_toS, ev_c, Nat.reduceDiv, Nat.reduceMod, exD, AOp.isH, keepN, preB, astep, stV, stN, stE, stC, aval, anew, aElems, frzS, frzH, aeff, slots, aret, ares, aress, AV.isTup, n_0, w_0, n_1, w_1, n_2, w_2, n_3, w_3, n_4, w_4, n_5, w_5, n_6, w_6, n_7, w_7, n_8, w_8, n_9, w_9, n_10, w_10, n_11, w_11, n_12, w_12, n_13, w_13, n_14, w_14, n_15, w_15, eqFs, aEqS, ofC_i, ofC_b, ofC_s, ofC_U, getD_mapU, getD_Bs, Bs_len, Int.toNat_natCast, opd, pt, tk, subp, rdP, Rt.size, Rt.isAgg, Rt.zv, aBin, aInt, aStr, arI, aUn, aToInt, aToStr, aIdxS, zv, aIdxA, aIa, aIaA, aFa, aLd, aFld, pparts, aLo, aHi, cutL, aSlS, aSl, aExt, aNck, aNilc, AV.isStr, aLen, AV.one, AV.multi, pureB, szOk, psz, drp, spl, aEqB, aEqA, aMm, aMkfn, aMkif, aBuild, toV, aBuildA, wrP, unparts, view, nilS, St.ev, lk, St.put, St.pin, St.pinV, acall0_if, acall1, acall2, acall3_none, acall3_if, acall3b, emp3, pv, pvr, pvs, isP_nil, isP_cons, bor, bor0, bor1, phiL_nil, phiL_at, tau, lentO, okIds, flatC, flatB, flatOs, flatO, place, setAll_nil, setAll_cons, nodupB, renObj, closeIds, addNew, idsOf, idsObj, posOf, lenOk_0, lenOk_1, lenOk_2, lenOk_3, lenOk_4, lenOk_8, ↓reduceIte, Option.isSome_none, Option.isSome_some, Bool.or_true, Bool.true_or,  Nat.reduceEqDiff, Nat.reduceBEq, Nat.reduceSub, Nat.reduceLT, beq_self_eq_true, List.map, List.set, List.map_cons, List.map_nil, List.flatMap_cons, List.flatMap_nil, List.flatten_cons, List.flatten_nil, true_and, and_true, List.length_cons, List.length_nil, Nat.reduceAdd, Nat.reduceLeDiff, List.nil_append, List.cons_append, List.append_nil, Option.map, mapO, ren, kp, kpI, ent, nilG, Option.bind, List.range, List.range.loop, List.getElem?_cons_zero, List.getElem?_cons_succ, List.getElem?_nil, List.getD_cons_zero, List.getD_cons_succ, List.drop_zero, List.drop_succ_cons, List.drop_nil, List.take_zero, List.take_succ_cons, List.all_cons, List.all_nil, List.isEmpty_nil, List.isEmpty_cons, Bool.and_true, Bool.true_and, Bool.not_true, Bool.not_false, List.contains_nil, reduceCtorEq, List.contains_cons, Bool.or_false, Bool.false_or, eq_self, forall_const, false_implies, Bool.false_eq_true, Nat.le_refl, List.length_map, List.length_set, List.length_replicate, and_self, implies_true, Bool.and_self, Bool.false_and, Bool.and_false, finP, finI, List.take_zero, Int.cast_ofNat_Int, decide_true, decide_false, Int.reduceEq, Int.reduceNe, Int.reduceLT, Int.reduceLE, Int.reduceToNat, bq_t, bq_f, bq_u, bq_g]
    refine loop2P [] [0, 3] [] (fun k : Nat => ⟨[(0, .str s), (3, .int .i64 (k : Int))], []⟩) (fun k => 1 ≤ k ∧ k ≤ 5 ∧ ∀ j : Nat, 1 ≤ j → j < k → wordL j ≠ s) (fun k => 5 - k) 1 rfl ⟨by omega, by omega, by omega⟩ ⟨rfl, rfl⟩ (fun k hk R hR => ?_)
    obtain ⟨k1, k2, k3⟩ := hk
    simp only [b_okind_0, t_okind_0, r_okind, wordS, b_scope, b_gn, b_gr, b_gx, b_skip, b_reg, b_draw, b_seq, b_cond, b_block, b_loop, b_exit, b_ret, b_nil, b_op, b_gt, b_gf, b_dnil, b_dop, b_dgt, b_dgf, b_aq, isB_t, isB_u, isB_f, isB_g, isB_p, isU_t, isU_b, ifB_t, ifB_f, b_tn, b_tx, b_tr, b_in, b_ir, b_ix, b_rn, b_rr, b_pt, b_pn, b_pi, b_pv, b_of, b_mk0, b_mk1, b_lk, b_put, nR0, nRs, nRn, sR0, sRs, sRn, sRm, topR, hp_toS, lk_toS, ev_toS, ev_c, Nat.reduceDiv, Nat.reduceMod, exD, AOp.isH, keepN, preB, astep, stV, stN, stE, stC, aval, anew, aElems, frzS, frzH, aeff, slots, aret, ares, aress, AV.isTup, n_0, w_0, n_1, w_1, n_2, w_2, n_3, w_3, n_4, w_4, n_5, w_5, n_6, w_6, n_7, w_7, n_8, w_8, n_9, w_9, n_10, w_10, n_11, w_11, n_12, w_12, n_13, w_13, n_14, w_14, n_15, w_15, eqFs, aEqS, ofC_i, ofC_b, ofC_s, ofC_U, getD_mapU, getD_Bs, Bs_len, Int.toNat_natCast, opd, pt, tk, subp, rdP, Rt.size, Rt.isAgg, Rt.zv, aBin, aInt, aStr, arI, aUn, aToInt, aToStr, aIdxS, zv, aIdxA, aIa, aIaA, aFa, aLd, aFld, pparts, aLo, aHi, cutL, aSlS, aSl, aExt, aNck, aNilc, AV.isStr, aLen, AV.one, AV.multi, pureB, szOk, psz, drp, spl, aEqB, aEqA, aMm, aMkfn, aMkif, aBuild, toV, aBuildA, wrP, unparts, view, nilS, St.ev, lk, St.put, St.pin, St.pinV, acall0_if, acall1, acall2, acall3_none, acall3_if, acall3b, emp3, pv, pvr, pvs, isP_nil, isP_cons, bor, bor0, bor1, phiL_nil, phiL_at, tau, lentO, okIds, flatC, flatB, flatOs, flatO, place, setAll_nil, setAll_cons, nodupB, renObj, closeIds, addNew, idsOf, idsObj, posOf, lenOk_0, lenOk_1, lenOk_2, lenOk_3, lenOk_4, lenOk_8, ↓reduceIte, Option.isSome_none, Option.isSome_some, Bool.or_true, Bool.true_or,  Nat.reduceEqDiff, Nat.reduceBEq, Nat.reduceSub, Nat.reduceLT, beq_self_eq_true, List.map, List.set, List.map_cons, List.map_nil, List.flatMap_cons, List.flatMap_nil, List.flatten_cons, List.flatten_nil, true_and, and_true, List.length_cons, List.length_nil, Nat.reduceAdd, Nat.reduceLeDiff, List.nil_append, List.cons_append, List.append_nil, Option.map, mapO, ren, kp, kpI, ent, nilG, Option.bind, List.range, List.range.loop, List.getElem?_cons_zero, List.getElem?_cons_succ, List.getElem?_nil, List.getD_cons_zero, List.getD_cons_succ, List.drop_zero, List.drop_succ_cons, List.drop_nil, List.take_zero, List.take_succ_cons, List.all_cons, List.all_nil, List.isEmpty_nil, List.isEmpty_cons, Bool.and_true, Bool.true_and, Bool.not_true, Bool.not_false, List.contains_nil, reduceCtorEq, List.contains_cons, Bool.or_false, Bool.false_or, eq_self, forall_const, false_implies, Bool.false_eq_true, Nat.le_refl, List.length_map, List.length_set, List.length_replicate, and_self, implies_true, Bool.and_self, Bool.false_and, Bool.and_false, finP, finI, List.take_zero, Int.cast_ofNat_Int, decide_true, decide_false, Int.reduceEq, Int.reduceNe, Int.reduceLT, Int.reduceLE, Int.reduceToNat, bq_t, bq_f, bq_u, bq_g]
    refine ⟨fun h => ⟨fun e => ?_, fun e => ?_⟩, fun h => ?_⟩
    · have h := of_decide_eq_true h
      have e := of_decide_eq_true e
      rw [kindN_at k1 (by omega) e]
    · have h := of_decide_eq_true h
      have e := of_decide_eq_false e
      refine ⟨by (first | omega | (simp only [lenOk, bytesOk, inI, IntKind.bits, List.length_append, Bs_len, List.length_cons, List.length_nil, List.length_map, List.length_take, List.length_drop, List.length_replicate]; omega)), hR _ (k + 1) ⟨by omega, by omega, fun j j1 j2 => ?_⟩ (by omega) rfl⟩
      rcases Nat.lt_or_ge j k with hj | hj
      · exact k3 j j1 hj
      · rw [show j = k by omega]; exact e
    · have h := of_decide_eq_false h
      rw [kindN_no fun j j1 j2 => k3 j j1 (by omega)]
  · cases hs
end Go.Proofs.YtjdlngbobnknmaaDoor
