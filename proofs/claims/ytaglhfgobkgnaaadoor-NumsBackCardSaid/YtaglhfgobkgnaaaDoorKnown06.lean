/- The chapter's examples, on abstract values. -/
import Derived.Test.YtaglhfgobkgnaaaDoorN06b
namespace Go.Proofs.YtaglhfgobkgnaaaDoor
set_option linter.all false
open Go.RowKit
theorem leb_300 : lebL 300 = [172, 2] := by rw [lebL_big (by omega), lebL_small (by omega)]; rfl
theorem ofs_128 : ofsL 128 = [128, 0] := by rw [ofsL_big (by omega), show (128 / 128 - 1) / 128 = 0 by omega, ofsR_zero]; rfl
theorem ofs_300 : ofsL 300 = [129, 44] := by rw [ofsL_big (by omega), show (300 / 128 - 1) / 128 = 0 by omega, ofsR_zero]; rfl
theorem ofsB_128 : (ofsB 128).length - 1 = 1 := by rw [ofsB, ofsR_pos (by omega), show (128 / 128 - 1) / 128 = 0 by omega, ofsR_zero]; rfl
theorem ofsB_300 : (ofsB 300).length - 1 = 1 := by rw [ofsB, ofsR_pos (by omega), show (300 / 128 - 1) / 128 = 0 by omega, ofsR_zero]; rfl
theorem head_3_5 : headL 3 5 = [53] := rfl
theorem head_3_300 : headL 3 300 = [188, 18] := by unfold headL; rw [if_neg (by omega), lebL_small (by omega)]; rfl
theorem hdV_5 : hdV 5 = 0 := rfl
theorem hdV_300 : hdV 300 = 1 := rfl
/-! tramway/tramwaylaw06.known -/
def c_known06 : ACode := (.seq (.reg none [⟨(some 0), (.mv (.c (.bool false))), none⟩]) (.seq (.reg none [⟨(some 1), (.call 11 [(.c (.int .i64 300))]), none⟩, ⟨(some 2), (.toStr (.t 1)), none⟩, ⟨(some 3), (.bin .eql (.t 2) (.c (.str [172, 2]))), none⟩, ⟨(some 4), (.mv (.t 3)), none⟩, ⟨(some 5), (.call 13 [(.c (.int .i64 128))]), (some (4, true))⟩, ⟨(some 6), (.toStr (.t 5)), (some (4, true))⟩, ⟨(some 7), (.bin .eql (.t 6) (.c (.str [128, 0]))), (some (4, true))⟩, ⟨(some 8), (.pick (.t 4) (.t 7) (.c (.bool false))), none⟩, ⟨(some 9), (.mv (.t 8)), none⟩, ⟨(some 10), (.call 13 [(.c (.int .i64 300))]), (some (9, true))⟩, ⟨(some 11), (.toStr (.t 10)), (some (9, true))⟩, ⟨(some 12), (.bin .eql (.t 11) (.c (.str [129, 44]))), (some (9, true))⟩, ⟨(some 13), (.pick (.t 9) (.t 12) (.c (.bool false))), none⟩, ⟨(some 14), (.mv (.t 13)), none⟩, ⟨(some 15), (.call 15 [(.c (.int .i64 3)), (.c (.int .i64 5))]), (some (14, true))⟩, ⟨(some 16), (.toStr (.t 15)), (some (14, true))⟩, ⟨(some 17), (.bin .eql (.t 16) (.c (.str [53]))), (some (14, true))⟩, ⟨(some 18), (.pick (.t 14) (.t 17) (.c (.bool false))), none⟩, ⟨(some 19), (.mv (.t 18)), none⟩, ⟨(some 20), (.call 15 [(.c (.int .i64 3)), (.c (.int .i64 300))]), (some (19, true))⟩, ⟨(some 21), (.toStr (.t 20)), (some (19, true))⟩, ⟨(some 22), (.bin .eql (.t 21) (.c (.str [188, 18]))), (some (19, true))⟩, ⟨(some 23), (.pick (.t 19) (.t 22) (.c (.bool false))), none⟩, ⟨(some 0), (.mv (.t 23)), none⟩]) .ret))
def r_known06 : List ARes := [(.t 0)]
theorem s_known06 : slimF Tryd.prog Tryd.f8 = some (c_known06, r_known06) := by kernel_rfl

def known06S : Spec := fun xs hp => match xs, hp with
  | [], [] => some ⟨.bool true, [], True⟩
  | _, _ => none

set_option maxRecDepth 4000 in
theorem known06_ok : FnOk Tryd.prog 8 known06S := by
  refine fn_slim2 Tryd.func8 s_known06 (Φ := phiL [(11, [], lebS), (13, [], ofsS), (15, [], headS)]) (phi_cons leb_ok (by kernel_rfl) (phi_cons ofs_ok (by kernel_rfl) (phi_cons head_ok (by kernel_rfl) phi_nil))) ?_
  intro xs hp r hs hp'
  unfold known06S at hs
  split at hs
  · injection hs with hs; subst hs
    refine ⟨len_le (by kernel_rfl), ?_⟩
    have o1 : okN 300 = true := okN_mk (by omega) (by omega)
    have o2 : okN 128 = true := okN_mk (by omega) (by omega)
    have o3 : okH 3 5 = true := by unfold okH; rw [okN_mk (by omega) (by omega)]; rfl
    have o4 : okH 3 300 = true := by unfold okH; rw [okN_mk (by omega) (by omega)]; rfl
    simp only [c_known06, r_known06, lebS, ofsS, headS, o1, o2, o3, o4, leb_300, ofs_128, ofs_300, ofsB_128, ofsB_300, head_3_5, head_3_300, hdV_5, hdV_300, unB_Bs, b_scope, b_gn, b_gr, b_gx, b_skip, b_reg, b_draw, b_seq, b_cond, b_block, b_loop, b_exit, b_ret, b_nil, b_op, b_gt, b_gf, b_dnil, b_dop, b_dgt, b_dgf, b_aq, isB_t, isB_u, isB_f, isB_g, isB_p, isU_t, isU_b, ifB_t, ifB_f, b_tn, b_tx, b_tr, b_in, b_ir, b_ix, b_rn, b_rr, b_pt, b_pn, b_pi, b_pv, b_of, b_mk0, b_mk1, b_lk, b_put, nR0, nRs, nRn, sR0, sRs, sRn, sRm, topR, hp_toS, lk_toS, ev_toS, ev_c, Nat.reduceDiv, Nat.reduceMod, exD, AOp.isH, preB, astep, stV, stN, stE, stC, aval, anew, aElems, frzS, frzH, aeff, slots, aret, ares, aress, AV.isTup, n_0, w_0, n_1, w_1, n_2, w_2, n_3, w_3, n_4, w_4, n_5, w_5, n_6, w_6, n_7, w_7, n_8, w_8, n_9, w_9, n_10, w_10, n_11, w_11, n_12, w_12, n_13, w_13, n_14, w_14, n_15, w_15, ofC_i, ofC_b, ofC_s, ofC_U, getD_mapU, getD_Bs, Bs_len, Int.toNat_natCast, opd, pt, tk, subp, rdP, Rt.size, Rt.isAgg, Rt.zv, aBin, aInt, aStr, arI, aUn, aToInt, aToStr, aIdxS, zv, aIdxA, aIa, aIaA, aFa, aLd, aFld, pparts, aLo, aHi, cutL, aSlS, aSl, aExt, aNck, aNilc, AV.isStr, aLen, AV.one, AV.multi, pureB, szOk, psz, drp, spl, aEqB, aEqA, aMm, aMkfn, aMkif, aBuild, toV, aBuildA, wrP, unparts, view, nilS, St.ev, lk, St.put, St.pin, St.pinV, acall0_if, acall1, acall2, acall3_none, acall3_if, acall3b, emp3, pv, pvr, pvs, isP_nil, isP_cons, bor, bor0, bor1, phiL_nil, phiL_at, tau, lentO, okIds, flatC, flatB, flatOs, flatO, place, setAll_nil, setAll_cons, nodupB, renObj, closeIds, addNew, idsOf, idsObj, posOf, lenOk_0, lenOk_1, lenOk_2, lenOk_3, lenOk_4, lenOk_8, ↓reduceIte, Option.isSome_none, Option.isSome_some, Bool.or_true, Bool.true_or,  Nat.reduceEqDiff, Nat.reduceBEq, Nat.reduceSub, Nat.reduceLT, beq_self_eq_true, List.map, List.set, List.map_cons, List.map_nil, List.flatMap_cons, List.flatMap_nil, List.flatten_cons, List.flatten_nil, true_and, and_true, List.length_cons, List.length_nil, Nat.reduceAdd, Nat.reduceLeDiff, List.nil_append, List.cons_append, List.append_nil, Option.map, mapO, ren, kp, kpI, ent, nilG, Option.bind, List.range, List.range.loop, List.getElem?_cons_zero, List.getElem?_cons_succ, List.getElem?_nil, List.getD_cons_zero, List.getD_cons_succ, List.drop_zero, List.drop_succ_cons, List.drop_nil, List.take_zero, List.take_succ_cons, List.all_cons, List.all_nil, List.isEmpty_nil, List.isEmpty_cons, Bool.and_true, Bool.true_and, Bool.not_true, Bool.not_false, List.contains_nil, reduceCtorEq, List.contains_cons, Bool.or_false, Bool.false_or, eq_self, forall_const, false_implies, Bool.false_eq_true, Nat.le_refl, List.length_map, List.length_set, List.length_replicate, and_self, implies_true, finP, finI, List.take_zero, Int.cast_ofNat_Int, decide_true, decide_false, Int.reduceEq, Int.reduceNe, Int.reduceLT, Int.reduceLE, Int.reduceToNat, bq_t, bq_f, bq_u, bq_g]
  · cases hs
end Go.Proofs.YtaglhfgobkgnaaaDoor
