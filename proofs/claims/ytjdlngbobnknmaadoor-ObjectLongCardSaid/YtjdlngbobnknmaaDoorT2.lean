/- The document's sums, on abstract values: its inner functions. -/
import Derived.Test.YtjdlngbobnknmaaDoorChecked
import Derived.Test.YtjdlngbobnknmaaDoorAM3
import Derived.Test.YtjdlngbobnknmaaDoorT2h
namespace Go.Proofs.YtjdlngbobnknmaaDoor
set_option linter.all false
open Go.RowKit
/-! tramway/tramwayref02.turn -/
def b_turn_0 : ACode := (.seq (.seq (.reg none [⟨(some 6), (.mv (.t 5)), none⟩, ⟨(some 7), (.mv (.t 1)), none⟩, ⟨(some 8), (.bin .lss (.t 6) (.t 7)), none⟩]) (.cond (.t 8) .skip (.exit 0))) (.seq (.block 1 (.reg none [⟨(some 11), (.mv (.t 0)), none⟩, ⟨(some 12), (.bin .mul (.c (.int .i64 2)) (.t 11)), none⟩, ⟨(some 13), (.bin .rem (.t 12) (.c (.int .i64 4294967296))), none⟩, ⟨(some 14), (.mv (.t 0)), none⟩, ⟨(some 15), (.bin .mul (.c (.int .i64 2)) (.t 14)), none⟩, ⟨(some 16), (.bin .quo (.t 15) (.c (.int .i64 4294967296))), none⟩, ⟨(some 17), (.bin .add (.t 13) (.t 16)), none⟩, ⟨(some 0), (.mv (.t 17)), none⟩])) (.reg none [⟨(some 9), (.mv (.t 5)), none⟩, ⟨(some 10), (.bin .add (.t 9) (.c (.int .i64 1))), none⟩, ⟨(some 5), (.mv (.t 10)), none⟩])))
def c_turn : ACode := (.seq (.reg none [⟨(some 4), (.mv (.c (.int .i64 0))), none⟩]) (.seq (.seq (.reg none [⟨(some 5), (.mv (.c (.int .i64 0))), none⟩]) (.block 0 (.loop b_turn_0))) (.seq (.reg none [⟨(some 18), (.mv (.t 0)), none⟩, ⟨(some 4), (.mv (.t 18)), none⟩]) .ret)))
def r_turn : List ARes := [(.t 4)]
theorem s_turn : slimF Tryd.prog Tryd.f30 = some (c_turn, r_turn) := by kernel_rfl

def turnI (x : Int) : Int := 2 * x % 4294967296 + 2 * x / 4294967296
def turnN (x : Int) : Nat → Int
  | 0 => x
  | n + 1 => turnI (turnN x n)
def turnS : Spec := fun xs hp => match xs, hp with
  | [.int .i64 x, .int .i64 n], [] => some ⟨.int .i64 (turnN x n.toNat), [], 0 ≤ x ∧ x < 4294967296 ∧ 0 ≤ n ∧ n ≤ 100⟩
  | _, _ => none
theorem turn_ok : FnOk Tryd.prog 30 turnS := by
  refine fn_slim Tryd.func30 s_turn (Φ := phiL []) phi_nil ?_
  intro xs hp r hs hp'
  unfold turnS at hs
  split at hs
  · injection hs with hs; subst hs
    rename_i x n
    simp only [c_turn, r_turn, awp_scope, noG_n, noG_r, noG_x, awp_skip, awp_reg, awp_draw, awp_seq, awp_cond, awp_block, awp_loop, awp_exit, awp_ret, arun_nil, arun_op, arun_gt, arun_gf, arunD_nil, arunD_op, arunD_gt, arunD_gf, aq_some, isB_t, isB_u, isB_f, isB_g, isB_p, isU_t, isU_b, ifB_t, ifB_f, thenQ_n, thenQ_x, thenQ_r, inQ_n, inQ_r, inQ_x, retQ_n, retQ_r, exD, AOp.isH, keepN, preB, astep, stV, stN, stE, stC, aval, anew, aElems, frzS, frzH, aeff, slots, aret, ares, aress, AV.isTup, eqFs, aEqS, ofC_i, ofC_b, ofC_s, ofC_U, getD_mapU, getD_Bs, Bs_len, Int.toNat_natCast, opd, pt, tk, subp, rdP, Rt.size, Rt.isAgg, Rt.zv, aBin, aInt, aStr, arI, aUn, aToInt, aToStr, aIdxS, zv, aIdxA, aIa, aIaA, aFa, aLd, aFld, pparts, aLo, aHi, cutL, aSlS, aSl, aExt, aNck, aNilc, AV.isStr, aLen, AV.one, AV.multi, pureB, szOk, psz, drp, spl, aEqB, aEqA, aMm, aMkfn, aMkif, aBuild, toV, aBuildA, wrP, unparts, view, nilS, St.ev, lk, St.put, St.pin, St.pinV, acall0, acall1, acall2, acall3, bor, bor0, bor1, phiL_nil, phiL_at, tau, lentO, okIds, flatC, flatB, flatOs, flatO, place, setAll_nil, setAll_cons, nodupB, renObj, closeIds, addNew, idsOf, idsObj, posOf, lenOk_0, lenOk_1, lenOk_2, lenOk_3, lenOk_4, lenOk_8, ↓reduceIte, Option.isSome_none, Option.isSome_some, Bool.or_true, Bool.true_or,  Nat.reduceEqDiff, Nat.reduceBEq, Nat.reduceSub, Nat.reduceLT, beq_self_eq_true, List.map, List.set, List.map_cons, List.map_nil, List.flatMap_cons, List.flatMap_nil, List.flatten_cons, List.flatten_nil, true_and, and_true, List.length_cons, List.length_nil, Nat.reduceAdd, Nat.reduceLeDiff, List.nil_append, List.cons_append, List.append_nil, Option.map, mapO, ren, kp, kpI, ent, nilG, Option.bind, List.range, List.range.loop, List.getElem?_cons_zero, List.getElem?_cons_succ, List.getElem?_nil, List.getD_cons_zero, List.getD_cons_succ, List.drop_zero, List.drop_succ_cons, List.drop_nil, List.take_zero, List.take_succ_cons, List.all_cons, List.all_nil, List.isEmpty_nil, List.isEmpty_cons, Bool.and_true, Bool.true_and, Bool.not_true, Bool.not_false, List.contains_nil, reduceCtorEq, List.contains_cons, Bool.or_false, Bool.false_or, eq_self, forall_const, false_implies, Bool.false_eq_true, Nat.le_refl, List.length_map, List.length_set, List.length_replicate, and_self, implies_true]
    refine ⟨len_le (by kernel_rfl), ?_⟩
    obtain ⟨p1, p2, p3, p4⟩ := hp'
    have hb : ∀ k, 0 ≤ turnN x k ∧ turnN x k < 4294967296 := by
      intro k
      induction k with
      | zero => exact ⟨p1, p2⟩
      | succ k ih => simp only [turnN, turnI]; omega
    refine loop_at [] [0, 1, 5] [] (fun k : Nat => ⟨[(0, .int .i64 (turnN x k)), (1, .int .i64 n), (5, .int .i64 k)], []⟩) (fun k => (k : Int) ≤ n) (fun k => n.toNat - k) 0 rfl (by simpa using p3) ⟨rfl, rfl⟩ (fun k hk => ?_)
    have := hb k
    simp only [b_turn_0, awp_scope, noG_n, noG_r, noG_x, awp_skip, awp_reg, awp_draw, awp_seq, awp_cond, awp_block, awp_loop, awp_exit, awp_ret, arun_nil, arun_op, arun_gt, arun_gf, arunD_nil, arunD_op, arunD_gt, arunD_gf, aq_some, isB_t, isB_u, isB_f, isB_g, isB_p, isU_t, isU_b, ifB_t, ifB_f, thenQ_n, thenQ_x, thenQ_r, inQ_n, inQ_r, inQ_x, retQ_n, retQ_r, exD, AOp.isH, keepN, preB, astep, stV, stN, stE, stC, aval, anew, aElems, frzS, frzH, aeff, slots, aret, ares, aress, AV.isTup, eqFs, aEqS, ofC_i, ofC_b, ofC_s, ofC_U, getD_mapU, getD_Bs, Bs_len, Int.toNat_natCast, opd, pt, tk, subp, rdP, Rt.size, Rt.isAgg, Rt.zv, aBin, aInt, aStr, arI, aUn, aToInt, aToStr, aIdxS, zv, aIdxA, aIa, aIaA, aFa, aLd, aFld, pparts, aLo, aHi, cutL, aSlS, aSl, aExt, aNck, aNilc, AV.isStr, aLen, AV.one, AV.multi, pureB, szOk, psz, drp, spl, aEqB, aEqA, aMm, aMkfn, aMkif, aBuild, toV, aBuildA, wrP, unparts, view, nilS, St.ev, lk, St.put, St.pin, St.pinV, acall0, acall1, acall2, acall3, bor, bor0, bor1, phiL_nil, phiL_at, tau, lentO, okIds, flatC, flatB, flatOs, flatO, place, setAll_nil, setAll_cons, nodupB, renObj, closeIds, addNew, idsOf, idsObj, posOf, lenOk_0, lenOk_1, lenOk_2, lenOk_3, lenOk_4, lenOk_8, ↓reduceIte, Option.isSome_none, Option.isSome_some, Bool.or_true, Bool.true_or,  Nat.reduceEqDiff, Nat.reduceBEq, Nat.reduceSub, Nat.reduceLT, beq_self_eq_true, List.map, List.set, List.map_cons, List.map_nil, List.flatMap_cons, List.flatMap_nil, List.flatten_cons, List.flatten_nil, true_and, and_true, List.length_cons, List.length_nil, Nat.reduceAdd, Nat.reduceLeDiff, List.nil_append, List.cons_append, List.append_nil, Option.map, mapO, ren, kp, kpI, ent, nilG, Option.bind, List.range, List.range.loop, List.getElem?_cons_zero, List.getElem?_cons_succ, List.getElem?_nil, List.getD_cons_zero, List.getD_cons_succ, List.drop_zero, List.drop_succ_cons, List.drop_nil, List.take_zero, List.take_succ_cons, List.all_cons, List.all_nil, List.isEmpty_nil, List.isEmpty_cons, Bool.and_true, Bool.true_and, Bool.not_true, Bool.not_false, List.contains_nil, reduceCtorEq, List.contains_cons, Bool.or_false, Bool.false_or, eq_self, forall_const, false_implies, Bool.false_eq_true, Nat.le_refl, List.length_map, List.length_set, List.length_replicate, and_self, implies_true]
    rw [Int.tmod_eq_emod_of_nonneg (by omega), Int.tdiv_eq_ediv_of_nonneg (by omega)]
    simp only [inI]
    refine ⟨fun h => ?_, fun h => ?_⟩
    · have := of_decide_eq_true h
      exact ⟨by omega, by omega, by omega, ⟨by omega, by omega⟩, by omega, by omega, k + 1, by omega, by omega, rfl⟩
    · have := of_decide_eq_false h
      rw [show n.toNat = k by omega]
      simp only [Bool.false_eq_true, renObj, finP, finI, closeIds, addNew, idsOf, List.flatMap_nil, List.flatMap_cons, List.append_nil, List.nil_append, List.take_zero, nodupB, posOf, idsObj, List.getD_cons_zero, List.getD_cons_succ, List.range, List.range.loop, ren, lentO, mapO, Option.map, ↓reduceIte, Nat.reduceEqDiff, true_and, and_true, List.getElem?_cons_zero, List.getElem?_cons_succ, Nat.reduceAdd, List.contains_nil, Bool.not_false, Bool.and_true, List.map_nil, List.map_cons, List.take_succ_cons]
  · cases hs

end Go.Proofs.YtjdlngbobnknmaaDoor
