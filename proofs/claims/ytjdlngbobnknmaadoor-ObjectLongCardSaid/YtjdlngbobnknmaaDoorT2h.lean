/- The document's sums, on abstract values: its inner functions. -/
import Derived.Test.YtjdlngbobnknmaaDoorChecked
import Derived.Test.YtjdlngbobnknmaaDoorAM3
namespace Go.Proofs.YtjdlngbobnknmaaDoor
set_option linter.all false
open Go.RowKit
/-! tramway/tramwayref02.digit -/
def c_digit : ACode := (.seq (.reg none [⟨(some 2), (.mv (.c (.int .u8 0))), none⟩]) (.seq (.seq (.reg none [⟨(some 3), (.mv (.t 0)), none⟩, ⟨(some 4), (.bin .lss (.t 3) (.c (.int .i64 10))), none⟩]) (.cond (.t 4) (.seq (.reg none [⟨(some 5), (.mv (.t 0)), none⟩, ⟨(some 6), (.bin .add (.c (.int .i64 48)) (.t 5)), none⟩, ⟨(some 7), (.toInt .u8 (.t 6)), none⟩, ⟨(some 2), (.mv (.t 7)), none⟩]) .ret) .skip)) (.seq (.reg none [⟨(some 8), (.mv (.t 0)), none⟩, ⟨(some 9), (.bin .add (.c (.int .i64 87)) (.t 8)), none⟩, ⟨(some 10), (.toInt .u8 (.t 9)), none⟩, ⟨(some 2), (.mv (.t 10)), none⟩]) .ret)))
def r_digit : List ARes := [(.t 2)]
theorem s_digit : slimF Tryd.prog Tryd.f18 = some (c_digit, r_digit) := by kernel_rfl
def digN (n : Int) : Int := if n < 10 then 48 + n else 87 + n
def digitS : Spec := fun xs hp => match xs, hp with
  | [.int .i64 n], [] => some ⟨.int .u8 (digN n), [], 0 ≤ n ∧ n < 16⟩
  | _, _ => none
theorem digit_ok : FnOk Tryd.prog 18 digitS := by
  refine fn_slim Tryd.func18 s_digit (Φ := phiL []) phi_nil ?_
  intro xs hp r hs hp'
  unfold digitS at hs
  split at hs
  · injection hs with hs; subst hs
    rename_i n
    refine ⟨len_le (by kernel_rfl), ?_⟩
    obtain ⟨p1, p2⟩ := hp'
    simp only [c_digit, r_digit, awp_scope, noG_n, noG_r, noG_x, awp_skip, awp_reg, awp_draw, awp_seq, awp_cond, awp_block, awp_loop, awp_exit, awp_ret, arun_nil, arun_op, arun_gt, arun_gf, arunD_nil, arunD_op, arunD_gt, arunD_gf, aq_some, isB_t, isB_u, isB_f, isB_g, isB_p, isU_t, isU_b, ifB_t, ifB_f, thenQ_n, thenQ_x, thenQ_r, inQ_n, inQ_r, inQ_x, retQ_n, retQ_r, exD, AOp.isH, keepN, preB, astep, stV, stN, stE, stC, aval, anew, aElems, frzS, frzH, aeff, slots, aret, ares, aress, AV.isTup, eqFs, aEqS, ofC_i, ofC_b, ofC_s, ofC_U, getD_mapU, getD_Bs, Bs_len, Int.toNat_natCast, opd, pt, tk, subp, rdP, Rt.size, Rt.isAgg, Rt.zv, aBin, aInt, aStr, arI, aUn, aToInt, aToStr, aIdxS, zv, aIdxA, aIa, aIaA, aFa, aLd, aFld, pparts, aLo, aHi, cutL, aSlS, aSl, aExt, aNck, aNilc, AV.isStr, aLen, AV.one, AV.multi, pureB, szOk, psz, drp, spl, aEqB, aEqA, aMm, aMkfn, aMkif, aBuild, toV, aBuildA, wrP, unparts, view, nilS, St.ev, lk, St.put, St.pin, St.pinV, acall0, acall1, acall2, acall3, bor, bor0, bor1, phiL_nil, phiL_at, tau, lentO, okIds, flatC, flatB, flatOs, flatO, place, setAll_nil, setAll_cons, nodupB, renObj, closeIds, addNew, idsOf, idsObj, posOf, lenOk_0, lenOk_1, lenOk_2, lenOk_3, lenOk_4, lenOk_8, ↓reduceIte, Option.isSome_none, Option.isSome_some, Bool.or_true, Bool.true_or,  Nat.reduceEqDiff, Nat.reduceBEq, Nat.reduceSub, Nat.reduceLT, beq_self_eq_true, List.map, List.set, List.map_cons, List.map_nil, List.flatMap_cons, List.flatMap_nil, List.flatten_cons, List.flatten_nil, true_and, and_true, List.length_cons, List.length_nil, Nat.reduceAdd, Nat.reduceLeDiff, List.nil_append, List.cons_append, List.append_nil, Option.map, mapO, ren, kp, kpI, ent, nilG, Option.bind, List.range, List.range.loop, List.getElem?_cons_zero, List.getElem?_cons_succ, List.getElem?_nil, List.getD_cons_zero, List.getD_cons_succ, List.drop_zero, List.drop_succ_cons, List.drop_nil, List.take_zero, List.take_succ_cons, List.all_cons, List.all_nil, List.isEmpty_nil, List.isEmpty_cons, Bool.and_true, Bool.true_and, Bool.not_true, Bool.not_false, List.contains_nil, reduceCtorEq, List.contains_cons, Bool.or_false, Bool.false_or, eq_self, forall_const, false_implies, Bool.false_eq_true, Nat.le_refl, List.length_map, List.length_set, List.length_replicate, and_self, implies_true]
    simp only [inI, digN, Bool.false_eq_true, renObj, finP, finI, closeIds, addNew, idsOf, List.flatMap_nil, List.flatMap_cons, List.append_nil, List.nil_append, List.take_zero, nodupB, posOf, idsObj, List.getD_cons_zero, List.getD_cons_succ, List.range, List.range.loop, ren, lentO, mapO, Option.map, ↓reduceIte, Nat.reduceEqDiff, true_and, and_true, List.getElem?_cons_zero, List.getElem?_cons_succ, Nat.reduceAdd, List.contains_nil, Bool.not_false, Bool.and_true, List.map_nil, List.map_cons, List.take_succ_cons]
    refine ⟨fun h => ?_, fun h => ?_⟩
    · have := of_decide_eq_true h
      rw [if_pos this]
      exact ⟨by omega, congrArg some (congrArg (AV.int .u8) (wrap8 (by omega) (by omega)))⟩
    · have := of_decide_eq_false h
      rw [if_neg this]
      exact ⟨by omega, congrArg some (congrArg (AV.int .u8) (wrap8 (by omega) (by omega)))⟩
  · cases hs
/-! tramway/tramwayref02.Hex -/
def b_rhex_0 : ACode := (.seq (.seq (.reg none [⟨(some 5), (.mv (.t 4)), none⟩, ⟨(some 6), (.bin .lss (.t 5) (.c (.int .i64 20))), none⟩]) (.cond (.t 6) .skip (.exit 0))) (.seq (.block 1 (.reg (some [(0, false), (1, false), (2, false), (3, false), (4, false), (5, false), (6, false), (6, false), (6, false), (6, false), (6, false), (6, false), (12, false), (13, false), (14, true), (15, true)]) [⟨(some 9), (.mv (.t 3)), none⟩, ⟨(some 10), (.mv (.t 4)), none⟩, ⟨(some 11), (.iaA 20 (.t 1) (.t 10)), none⟩, ⟨(some 12), (.ld (.one (.int .u8 0)) (.t 11)), none⟩, ⟨(some 13), (.toInt .i64 (.t 12)), none⟩, ⟨(some 14), (.bin .quo (.t 13) (.c (.int .i64 16))), none⟩, ⟨(some 15), (.call 18 [(.t 14)]), none⟩, ⟨(some 16), (.mv (.t 4)), none⟩, ⟨(some 17), (.iaA 20 (.t 1) (.t 16)), none⟩, ⟨(some 18), (.ld (.one (.int .u8 0)) (.t 17)), none⟩, ⟨(some 19), (.toInt .i64 (.t 18)), none⟩, ⟨(some 20), (.bin .rem (.t 19) (.c (.int .i64 16))), none⟩, ⟨(some 21), (.call 18 [(.t 20)]), none⟩, ⟨(some 22), (.buildSl 5 1 [(.t 15), (.t 21)]), none⟩, ⟨(some 23), (.app 5 1 1 (.t 9) (.t 22)), none⟩, ⟨(some 3), (.mv (.t 23)), none⟩])) (.reg none [⟨(some 7), (.mv (.t 4)), none⟩, ⟨(some 8), (.bin .add (.t 7) (.c (.int .i64 1))), none⟩, ⟨(some 4), (.mv (.t 8)), none⟩])))
def c_rhex : ACode := (.seq (.reg none [⟨(some 1), (.box 24 20 (.t 0)), none⟩, ⟨(some 2), (.mv (.c (.str []))), none⟩]) (.seq (.reg none [⟨(some 3), (.mv (.c (.con (.slice none 0 0)))), none⟩]) (.seq (.seq (.reg none [⟨(some 4), (.mv (.c (.int .i64 0))), none⟩]) (.block 0 (.loop b_rhex_0))) (.seq (.reg none [⟨(some 24), (.mv (.t 3)), none⟩, ⟨(some 25), (.toStr (.t 24)), none⟩, ⟨(some 2), (.mv (.t 25)), none⟩]) .ret))))
def r_rhex : List ARes := [(.t 2)]
theorem s_rhex : slimF Tryd.prog Tryd.f11 = some (c_rhex, r_rhex) := by kernel_rfl
def hexI (l : List UInt8) : List UInt8 := l.flatMap fun u => [UInt8.ofNat (digN (u.toNat / 16)).toNat, UInt8.ofNat (digN (u.toNat % 16)).toNat]
theorem hexI_len (l : List UInt8) : (hexI l).length = 2 * l.length := by
  unfold hexI
  induction l with
  | nil => rfl
  | cons u l ih => rw [List.flatMap_cons, List.length_append, ih]; simp; omega
theorem hexI_append (l m : List UInt8) : hexI (l ++ m) = hexI l ++ hexI m := List.flatMap_append
theorem digN_le {n : Int} (h : 0 ≤ n) (h' : n < 16) : 0 ≤ digN n ∧ digN n < 256 := by unfold digN; split <;> omega
def rhexS : Spec := fun xs hp => match xs, hp with
  | [.blob cs], [] => some ⟨.str (hexI (unV cs)), [], cs = (unV cs).map U ∧ cs.length = 20⟩
  | _, _ => none
theorem rhex_ok : FnOk Tryd.prog 11 rhexS := by
  refine fn_slim Tryd.func11 s_rhex (Φ := phiL [(18, [], digitS)]) (phi_cons digit_ok (by kernel_rfl) phi_nil) ?_
  intro xs hp r hs hp'
  unfold rhexS at hs
  split at hs
  · injection hs with hs; subst hs
    rename_i cs
    refine ⟨len_le (by kernel_rfl), ?_⟩
    obtain ⟨p1, p2⟩ := hp'
    generalize hl : unV cs = l at *
    subst p1
    have hl : l.length = 20 := by simpa using p2
    simp only [c_rhex, r_rhex, awp_scope, noG_n, noG_r, noG_x, awp_skip, awp_reg, awp_draw, awp_seq, awp_cond, awp_block, awp_loop, awp_exit, awp_ret, arun_nil, arun_op, arun_gt, arun_gf, arunD_nil, arunD_op, arunD_gt, arunD_gf, aq_some, isB_t, isB_u, isB_f, isB_g, isB_p, isU_t, isU_b, ifB_t, ifB_f, thenQ_n, thenQ_x, thenQ_r, inQ_n, inQ_r, inQ_x, retQ_n, retQ_r, exD, AOp.isH, keepN, preB, astep, stV, stN, stE, stC, aval, anew, aElems, frzS, frzH, aeff, slots, aret, ares, aress, AV.isTup, eqFs, aEqS, ofC_i, ofC_b, ofC_s, ofC_U, getD_mapU, getD_Bs, Bs_len, Int.toNat_natCast, opd, pt, tk, subp, rdP, Rt.size, Rt.isAgg, Rt.zv, aBin, aInt, aStr, arI, aUn, aToInt, aToStr, aIdxS, zv, aIdxA, aIa, aIaA, aFa, aLd, aFld, pparts, aLo, aHi, cutL, aSlS, aSl, aExt, aNck, aNilc, AV.isStr, aLen, AV.one, AV.multi, pureB, szOk, psz, drp, spl, aEqB, aEqA, aMm, aMkfn, aMkif, aBuild, toV, aBuildA, wrP, unparts, view, nilS, St.ev, lk, St.put, St.pin, St.pinV, acall0, acall1, acall2, acall3, bor, bor0, bor1, phiL_nil, phiL_at, tau, lentO, okIds, flatC, flatB, flatOs, flatO, place, setAll_nil, setAll_cons, nodupB, renObj, closeIds, addNew, idsOf, idsObj, posOf, lenOk_0, lenOk_1, lenOk_2, lenOk_3, lenOk_4, lenOk_8, ↓reduceIte, Option.isSome_none, Option.isSome_some, Bool.or_true, Bool.true_or,  Nat.reduceEqDiff, Nat.reduceBEq, Nat.reduceSub, Nat.reduceLT, beq_self_eq_true, List.map, List.set, List.map_cons, List.map_nil, List.flatMap_cons, List.flatMap_nil, List.flatten_cons, List.flatten_nil, true_and, and_true, List.length_cons, List.length_nil, Nat.reduceAdd, Nat.reduceLeDiff, List.nil_append, List.cons_append, List.append_nil, Option.map, mapO, ren, kp, kpI, ent, nilG, Option.bind, List.range, List.range.loop, List.getElem?_cons_zero, List.getElem?_cons_succ, List.getElem?_nil, List.getD_cons_zero, List.getD_cons_succ, List.drop_zero, List.drop_succ_cons, List.drop_nil, List.take_zero, List.take_succ_cons, List.all_cons, List.all_nil, List.isEmpty_nil, List.isEmpty_cons, Bool.and_true, Bool.true_and, Bool.not_true, Bool.not_false, List.contains_nil, reduceCtorEq, List.contains_cons, Bool.or_false, Bool.false_or, eq_self, forall_const, false_implies, Bool.false_eq_true, Nat.le_refl, List.length_map, List.length_set, List.length_replicate, and_self, implies_true]
    refine ⟨hl, ?_⟩
    refine loop_at [(3, 5, 1)] [1, 3, 4] [0, 1] (fun k : Nat => ⟨[(1, .ref 0 0 0), (3, .own 1 k), (4, .int .i64 k)], [.cells 24 [(20, .blob (l.map U))], .row 5 1 k (Bs (hexI (l.take k)))]⟩) (fun k => k ≤ 20) (fun k => 20 - k) 0 rfl (by omega) ⟨rfl, rfl⟩ (fun k hk => ?_)
    simp only [b_rhex_0, digitS, awp_scope, noG_n, noG_r, noG_x, awp_skip, awp_reg, awp_draw, awp_seq, awp_cond, awp_block, awp_loop, awp_exit, awp_ret, arun_nil, arun_op, arun_gt, arun_gf, arunD_nil, arunD_op, arunD_gt, arunD_gf, aq_some, isB_t, isB_u, isB_f, isB_g, isB_p, isU_t, isU_b, ifB_t, ifB_f, thenQ_n, thenQ_x, thenQ_r, inQ_n, inQ_r, inQ_x, retQ_n, retQ_r, exD, AOp.isH, keepN, preB, astep, stV, stN, stE, stC, aval, anew, aElems, frzS, frzH, aeff, slots, aret, ares, aress, AV.isTup, eqFs, aEqS, ofC_i, ofC_b, ofC_s, ofC_U, getD_mapU, getD_Bs, Bs_len, Int.toNat_natCast, opd, pt, tk, subp, rdP, Rt.size, Rt.isAgg, Rt.zv, aBin, aInt, aStr, arI, aUn, aToInt, aToStr, aIdxS, zv, aIdxA, aIa, aIaA, aFa, aLd, aFld, pparts, aLo, aHi, cutL, aSlS, aSl, aExt, aNck, aNilc, AV.isStr, aLen, AV.one, AV.multi, pureB, szOk, psz, drp, spl, aEqB, aEqA, aMm, aMkfn, aMkif, aBuild, toV, aBuildA, wrP, unparts, view, nilS, St.ev, lk, St.put, St.pin, St.pinV, acall0, acall1, acall2, acall3, bor, bor0, bor1, phiL_nil, phiL_at, tau, lentO, okIds, flatC, flatB, flatOs, flatO, place, setAll_nil, setAll_cons, nodupB, renObj, closeIds, addNew, idsOf, idsObj, posOf, lenOk_0, lenOk_1, lenOk_2, lenOk_3, lenOk_4, lenOk_8, ↓reduceIte, Option.isSome_none, Option.isSome_some, Bool.or_true, Bool.true_or,  Nat.reduceEqDiff, Nat.reduceBEq, Nat.reduceSub, Nat.reduceLT, beq_self_eq_true, List.map, List.set, List.map_cons, List.map_nil, List.flatMap_cons, List.flatMap_nil, List.flatten_cons, List.flatten_nil, true_and, and_true, List.length_cons, List.length_nil, Nat.reduceAdd, Nat.reduceLeDiff, List.nil_append, List.cons_append, List.append_nil, Option.map, mapO, ren, kp, kpI, ent, nilG, Option.bind, List.range, List.range.loop, List.getElem?_cons_zero, List.getElem?_cons_succ, List.getElem?_nil, List.getD_cons_zero, List.getD_cons_succ, List.drop_zero, List.drop_succ_cons, List.drop_nil, List.take_zero, List.take_succ_cons, List.all_cons, List.all_nil, List.isEmpty_nil, List.isEmpty_cons, Bool.and_true, Bool.true_and, Bool.not_true, Bool.not_false, List.contains_nil, reduceCtorEq, List.contains_cons, Bool.or_false, Bool.false_or, eq_self, forall_const, false_implies, Bool.false_eq_true, Nat.le_refl, List.length_map, List.length_set, List.length_replicate, and_self, implies_true]
    refine ⟨fun h => ?_, fun h => ?_⟩
    · have hk := of_decide_eq_true h
      have hu := (l.getD k 0).toNat_lt
      have hk' : k < 20 := by omega
      rw [Int.tdiv_eq_ediv_of_nonneg (by omega), Int.tmod_eq_emod_of_nonneg (by omega)]
      have hlen : (hexI (l.take k)).length ≤ 40 := by rw [hexI_len, List.length_take]; omega
      simp only [inI, lenOk, bytesOk, IntKind.bits, Bs, List.length_append, List.length_map, List.length_cons, List.length_nil]
      refine ⟨by omega, by omega, by omega, ⟨by omega, by omega⟩, by omega, by omega, by omega, by omega, by omega, by omega, by omega, ⟨by omega, by omega⟩, k + 1, by omega, by omega, ?_⟩
      rw [take_succ' (by omega), hexI_append, List.map_append]
      simp only [hexI, List.flatMap_cons, List.flatMap_nil, List.append_nil, List.map_cons, List.map_nil]
      rw [ub_int (digN_le (by omega) (by omega)).1 (digN_le (by omega) (by omega)).2, ub_int (digN_le (by omega) (by omega)).1 (digN_le (by omega) (by omega)).2]
      rfl
    · have hk := of_decide_eq_false h
      rw [List.take_of_length_le (by omega)]
      simp only [Bool.false_eq_true, renObj, finP, finI, closeIds, addNew, idsOf, List.flatMap_nil, List.flatMap_cons, List.append_nil, List.nil_append, List.take_zero, nodupB, posOf, idsObj, List.getD_cons_zero, List.getD_cons_succ, List.range, List.range.loop, ren, lentO, mapO, Option.map, ↓reduceIte, Nat.reduceEqDiff, true_and, and_true, List.getElem?_cons_zero, List.getElem?_cons_succ, Nat.reduceAdd, List.contains_nil, Bool.not_false, Bool.and_true, List.map_nil, List.map_cons, List.take_succ_cons, unB_Bs]
  · cases hs
end Go.Proofs.YtjdlngbobnknmaaDoor
