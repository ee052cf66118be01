import Derived.Test.YtfabdnpeohpgnaaGreatDoorQFRChg1
import Derived.Test.YtfabdnpeohpgnaaGreatDoorChecked
namespace Go.Proofs.YtfabdnpeohpgnaaGreatDoor
set_option linter.all false
open Go.RowKit
open Go.Lib (indexAny)
def c_nrightc : ACode := (.seq (.reg none [⟨(some 2), (.mv (.c (.bool false))), none⟩]) (.seq (.reg none [⟨(some 3), (.mv (.t 0)), none⟩, ⟨(some 4), (.bin .eql (.t 3) (.c (.str []))), none⟩, ⟨(some 5), (.mv (.t 4)), none⟩, ⟨(some 6), (.mv (.t 0)), (some (5, false))⟩, ⟨(some 7), (.bin .eql (.t 6) (.c (.str [46]))), (some (5, false))⟩, ⟨(some 8), (.pick (.t 5) (.c (.bool true)) (.t 7)), none⟩, ⟨(some 9), (.mv (.t 8)), none⟩, ⟨(some 10), (.mv (.t 0)), (some (9, false))⟩, ⟨(some 11), (.bin .eql (.t 10) (.c (.str [46, 46]))), (some (9, false))⟩, ⟨(some 12), (.pick (.t 9) (.c (.bool true)) (.t 11)), none⟩, ⟨(some 2), (.mv (.t 12)), none⟩]) .ret))
def r_nrightc : List ARes := [(.t 2)]
theorem s_nrightc : slimF Tryz.prog Tryz.f52 = some (c_nrightc, r_nrightc) := by kernel_rfl
def badS : Spec := fun xs hp => match xs, hp with
  | [.str q], [] => some ⟨.bool (badP q), [], True⟩
  | _, _ => none
theorem bad_ok : FnOk Tryz.prog 52 badS := by
  refine fn_slim2 Tryz.func52 s_nrightc (Φ := phiL []) phi_nil ?_
  intro xs hp r hs hp'
  unfold badS at hs
  split at hs
  · injection hs with hs; subst hs
    rename_i q
    refine ⟨len_le (by kernel_rfl), ?_⟩
    rcases Classical.em (q = []) with h0 | h0
    · subst h0
      simp only [c_nrightc, r_nrightc, decide_true, go_sem, Nat.reduceDiv, Nat.reduceMod, ↓reduceIte, Nat.reduceEqDiff, Nat.reduceBEq, Nat.reduceSub, Nat.reduceLT, Nat.reduceAdd, Nat.reduceLeDiff, reduceCtorEq, Int.reduceEq, Int.reduceNe, Int.reduceLT, Int.reduceLE, Int.reduceToNat]
      simp [badP]
    · have d0 : decide (q = []) = false := decide_eq_false h0
      rcases Classical.em (q = [46]) with h1 | h1
      · have d1 : decide (q = [46]) = true := decide_eq_true h1
        simp only [c_nrightc, r_nrightc, d0, d1, go_sem, Nat.reduceDiv, Nat.reduceMod, ↓reduceIte, Nat.reduceEqDiff, Nat.reduceBEq, Nat.reduceSub, Nat.reduceLT, Nat.reduceAdd, Nat.reduceLeDiff, reduceCtorEq, Int.reduceEq, Int.reduceNe, Int.reduceLT, Int.reduceLE, Int.reduceToNat]
        simp [badP, d0, d1]
      · have d1 : decide (q = [46]) = false := decide_eq_false h1
        have e : badP q = decide (q = [46, 46]) := by unfold badP; rw [d0, d1]; rfl
        simp only [c_nrightc, r_nrightc, d0, d1, e, go_sem, Nat.reduceDiv, Nat.reduceMod, ↓reduceIte, Nat.reduceEqDiff, Nat.reduceBEq, Nat.reduceSub, Nat.reduceLT, Nat.reduceAdd, Nat.reduceLeDiff, reduceCtorEq, Int.reduceEq, Int.reduceNe, Int.reduceLT, Int.reduceLE, Int.reduceToNat]
  · cases hs
def b_ifs_0 : ACode := (.seq (.reg none [⟨(some 9), (.bin .lss (.t 8) (.t 7)), none⟩]) (.seq (.cond (.t 9) .skip (.exit 0)) (.seq (.block 1 (.seq (.reg none [⟨(some 10), (.mv (.t 8)), none⟩, ⟨(some 5), (.mv (.t 10)), none⟩]) (.seq (.reg none [⟨(some 11), (.mv (.t 1)), none⟩, ⟨(some 12), (.mv (.t 0)), none⟩, ⟨(some 13), (.mv (.t 5)), none⟩, ⟨(some 14), (.ia 1 (.str []) (.t 12) (.t 13)), none⟩, ⟨(some 15), (.ld (.one (.str [])) (.t 14)), none⟩, ⟨(some 16), (.callv (.t 11) [(.t 15)]), none⟩]) (.cond (.t 16) (.seq (.reg none [⟨(some 17), (.mv (.t 5)), none⟩, ⟨(some 4), (.mv (.t 17)), none⟩]) .ret) .skip)))) (.reg none [⟨(some 18), (.bin .add (.t 8) (.c (.int .i64 1))), none⟩, ⟨(some 8), (.mv (.t 18)), none⟩]))))
def t_ifs_0 : ACode := (.seq (.reg none [⟨(some 4), (.mv (.c (.int .i64 (-1)))), none⟩]) .ret)
def c_ifs : ACode := (.seq (.reg none [⟨(some 4), (.mv (.c (.int .i64 0))), none⟩]) (.seq (.seq (.reg none [⟨(some 6), (.mv (.t 0)), none⟩, ⟨(some 7), (.len none false (.t 6)), none⟩, ⟨(some 8), (.mv (.c (.int .i64 0))), none⟩]) (.block 0 (.loop b_ifs_0))) t_ifs_0))
def r_ifs : List ARes := [(.t 4)]
theorem s_ifs : slimF Tryz.prog Tryz.f64 = some (c_ifs, r_ifs) := by kernel_rfl
def fiB (ps : List (List UInt8)) : Int := if ps.any badP then (ps.findIdx badP : Int) else -1
def ifBadS : Spec := fun xs hp => match xs, hp with
  | [.sl 1 ps, .fn (.func g) [] []], [] => some ⟨.int .i64 (fiB (ps.map unS)), [], g = 52 ∧ ps = (ps.map unS).map AV.str ∧ ps.length ≤ 1000000000000⟩
  | _, _ => none
theorem ifBad_ok : FnOk Tryz.prog 64 ifBadS := by
  refine fn_slim Tryz.func64 s_ifs (Φ := phiL [(52, [], badS)]) (phi_cons bad_ok (by kernel_rfl) phi_nil) ?_
  intro xs hp r hs hp'
  unfold ifBadS at hs
  split at hs
  · injection hs with hs; subst hs
    rename_i qs g
    refine ⟨len_le (by kernel_rfl), ?_⟩
    obtain ⟨rfl, p2, p3⟩ := hp'
    generalize qs.map unS = ps at *
    subst p2
    rw [List.length_map] at p3
    simp only [c_ifs, r_ifs, awp_scope, noG_n, noG_r, noG_x, awp_skip, awp_reg, awp_draw, awp_seq, awp_cond, awp_block, awp_loop, awp_exit, awp_ret, arun_nil, arun_op, arun_gt, arun_gf, arunD_nil, arunD_op, arunD_gt, arunD_gf, aq_some, isB_t, isB_u, isB_f, isB_g, isB_p, isU_t, isU_b, ifB_t, ifB_f, thenQ_n, thenQ_x, thenQ_r, inQ_n, inQ_r, inQ_x, retQ_n, retQ_r, exD, AOp.isH, keepN, preB, avalP, pureR, astep, stV, stN, stE, stC, aval, anew, aElems, frzS, frzH, aeff, slots, aret, ares, aress, AV.isTup, eqFs, aEqS, ofC_i, ofC_b, ofC_s, ofC_U, getD_mapU, getD_Bs, Bs_len, Int.toNat_natCast, opd, pt, tk, subp, rdP, Rt.size, Rt.isAgg, Rt.zv, aBin, aInt, aStr, arI, aUn, aToInt, aToStr, aIdxS, zv, aIdxA, aIa, aIaA, aFa, aLd, aFld, pparts, aLo, aHi, cutL, aSlS, aSl, aExt, aNck, aNilc, AV.isStr, aLen, AV.one, AV.multi, pureB, szOk, psz, drp, spl, aEqB, aEqA, aMm, aMkfn, aMkif, aBuild, toV, aBuildA, wrP, unparts, view, nilS, St.ev, lk, St.put, St.pin, St.pinV, acall0, acall1, acall2, acall3, bor, bor0, bor1, phiL_nil, phiL_at, tau, lentO, okIds, flatC, flatB, flatOs, flatO, flatPs, place, setAll_nil, setAll_cons, nodupB, renObj, closeIds, addNew, idsOf, idsObj, posOf, lenOk_0, lenOk_1, lenOk_2, lenOk_3, lenOk_4, lenOk_8, ↓reduceIte, Option.isSome_none, Option.isSome_some, Bool.or_true, Bool.true_or,  Nat.reduceEqDiff, Nat.reduceBEq, Nat.reduceSub, Nat.reduceLT, beq_self_eq_true, List.map, List.set, List.map_cons, List.map_nil, List.flatMap_cons, List.flatMap_nil, List.flatten_cons, List.flatten_nil, true_and, and_true, List.length_cons, List.length_nil, Nat.reduceAdd, Nat.reduceLeDiff, List.nil_append, List.cons_append, List.append_nil, Option.map, mapO, ren, kp, kpI, ent, nilG, Option.bind, List.range, List.range.loop, List.getElem?_cons_zero, List.getElem?_cons_succ, List.getElem?_nil, List.getD_cons_zero, List.getD_cons_succ, List.drop_zero, List.drop_succ_cons, List.drop_nil, List.take_zero, List.take_succ_cons, List.all_cons, List.all_nil, List.isEmpty_nil, List.isEmpty_cons, Bool.and_true, Bool.true_and, Bool.not_true, Bool.not_false, List.contains_nil, reduceCtorEq, List.contains_cons, Bool.or_false, Bool.false_or, eq_self, forall_const, false_implies, Bool.false_eq_true, Nat.le_refl, List.length_map, List.length_set, List.length_replicate, and_self, implies_true]
    refine loop_at [] [0, 1, 7, 8] [] (fun i : Nat => ⟨[(0, .sl 1 (ps.map AV.str)), (1, .fn (.func 52) [] []), (7, .int .i64 (ps.length : Int)), (8, .int .i64 (i : Int))], []⟩) (fun i => i ≤ ps.findIdx badP) (fun i => ps.length - i) 0 rfl (by omega) ⟨rfl, rfl⟩ (fun i hi => ?_)
    have hle := List.findIdx_le_length (xs := ps) (p := badP)
    by_cases hil : i < ps.length
    · have c1 : decide ((i : Int) < (ps.length : Int)) = true := decide_eq_true (by omega)
      have hget : (ps.map AV.str).getD i (.str []) = .str (ps.getD i []) := by
        simp [List.getD_eq_getElem?_getD, List.getElem?_map, List.getElem?_eq_getElem hil]
      have hga : ps.getD i [] = ps[i] := by simp [List.getD_eq_getElem?_getD, List.getElem?_eq_getElem hil]
      simp only [b_ifs_0, r_ifs, t_ifs_0, badS, c1, hget, Int.toNat_natCast, awp_scope, noG_n, noG_r, noG_x, awp_skip, awp_reg, awp_draw, awp_seq, awp_cond, awp_block, awp_loop, awp_exit, awp_ret, arun_nil, arun_op, arun_gt, arun_gf, arunD_nil, arunD_op, arunD_gt, arunD_gf, aq_some, isB_t, isB_u, isB_f, isB_g, isB_p, isU_t, isU_b, ifB_t, ifB_f, thenQ_n, thenQ_x, thenQ_r, inQ_n, inQ_r, inQ_x, retQ_n, retQ_r, exD, AOp.isH, keepN, preB, avalP, pureR, astep, stV, stN, stE, stC, aval, anew, aElems, frzS, frzH, aeff, slots, aret, ares, aress, AV.isTup, eqFs, aEqS, ofC_i, ofC_b, ofC_s, ofC_U, getD_mapU, getD_Bs, Bs_len, Int.toNat_natCast, opd, pt, tk, subp, rdP, Rt.size, Rt.isAgg, Rt.zv, aBin, aInt, aStr, arI, aUn, aToInt, aToStr, aIdxS, zv, aIdxA, aIa, aIaA, aFa, aLd, aFld, pparts, aLo, aHi, cutL, aSlS, aSl, aExt, aNck, aNilc, AV.isStr, aLen, AV.one, AV.multi, pureB, szOk, psz, drp, spl, aEqB, aEqA, aMm, aMkfn, aMkif, aBuild, toV, aBuildA, wrP, unparts, view, nilS, St.ev, lk, St.put, St.pin, St.pinV, acall0, acall1, acall2, acall3, bor, bor0, bor1, phiL_nil, phiL_at, tau, lentO, okIds, flatC, flatB, flatOs, flatO, flatPs, place, setAll_nil, setAll_cons, nodupB, renObj, closeIds, addNew, idsOf, idsObj, posOf, lenOk_0, lenOk_1, lenOk_2, lenOk_3, lenOk_4, lenOk_8, ↓reduceIte, Option.isSome_none, Option.isSome_some, Bool.or_true, Bool.true_or,  Nat.reduceEqDiff, Nat.reduceBEq, Nat.reduceSub, Nat.reduceLT, beq_self_eq_true, List.map, List.set, List.map_cons, List.map_nil, List.flatMap_cons, List.flatMap_nil, List.flatten_cons, List.flatten_nil, true_and, and_true, List.length_cons, List.length_nil, Nat.reduceAdd, Nat.reduceLeDiff, List.nil_append, List.cons_append, List.append_nil, Option.map, mapO, ren, kp, kpI, ent, nilG, Option.bind, List.range, List.range.loop, List.getElem?_cons_zero, List.getElem?_cons_succ, List.getElem?_nil, List.getD_cons_zero, List.getD_cons_succ, List.drop_zero, List.drop_succ_cons, List.drop_nil, List.take_zero, List.take_succ_cons, List.all_cons, List.all_nil, List.isEmpty_nil, List.isEmpty_cons, Bool.and_true, Bool.true_and, Bool.not_true, Bool.not_false, List.contains_nil, reduceCtorEq, List.contains_cons, Bool.or_false, Bool.false_or, eq_self, forall_const, false_implies, Bool.false_eq_true, Nat.le_refl, List.length_map, List.length_set, List.length_replicate, and_self, implies_true]
      refine ⟨⟨by omega, by omega⟩, fun hb => ?_, fun hb => ?_⟩
      · rw [hga] at hb
        have hf : ps.findIdx badP = i := by
          have := List.not_of_lt_findIdx (xs := ps) (p := badP) (i := i)
          rcases Nat.lt_or_ge i (ps.findIdx badP) with h | h
          · exact absurd hb (by simpa using this h)
          · omega
        have hany : ps.any badP = true := List.any_eq_true.2 ⟨ps[i], List.getElem_mem _, hb⟩
        have e : fiB ps = (i : Int) := by unfold fiB; rw [hany, if_pos rfl, hf]
        simp only [e, Bool.false_eq_true, renObj, finP, finI, closeIds, addNew, idsOf, List.flatMap_nil, List.flatMap_cons, List.append_nil, List.nil_append, List.take_zero, nodupB, posOf, idsObj, List.getD_cons_zero, List.getD_cons_succ, List.range, List.range.loop, ren, lentO, mapO, Option.map, ↓reduceIte, Nat.reduceEqDiff, true_and, and_true, List.getElem?_cons_zero, List.getElem?_cons_succ, Nat.reduceAdd, List.contains_nil, Bool.not_false, Bool.and_true, List.map_nil, List.map_cons, List.take_succ_cons]
      · rw [hga] at hb
        have hf : i < ps.findIdx badP := by
          rcases Nat.lt_or_ge i (ps.findIdx badP) with h | h
          · exact h
          · have e : ps.findIdx badP = i := by omega
            have := List.findIdx_getElem (xs := ps) (p := badP) (w := by omega)
            simp only [e] at this
            rw [hb] at this; cases this
        exact ⟨by (first | omega | (simp only [lenOk, bytesOk, inI, IntKind.bits, List.length_append, Bs_len, List.length_cons, List.length_nil, List.length_map, List.length_take, List.length_drop, List.length_replicate]; omega)), i + 1, by omega, by omega, rfl⟩
    · have c1 : decide ((i : Int) < (ps.length : Int)) = false := decide_eq_false (by omega)
      have hn : ps.any badP = false := by
        rw [List.any_eq_false]
        intro x hx hb
        have := List.findIdx_lt_length_of_exists ⟨x, hx, hb⟩
        omega
      have e : fiB ps = -1 := by unfold fiB; rw [hn]; rfl
      simp only [b_ifs_0, r_ifs, t_ifs_0, badS, c1, e, awp_scope, noG_n, noG_r, noG_x, awp_skip, awp_reg, awp_draw, awp_seq, awp_cond, awp_block, awp_loop, awp_exit, awp_ret, arun_nil, arun_op, arun_gt, arun_gf, arunD_nil, arunD_op, arunD_gt, arunD_gf, aq_some, isB_t, isB_u, isB_f, isB_g, isB_p, isU_t, isU_b, ifB_t, ifB_f, thenQ_n, thenQ_x, thenQ_r, inQ_n, inQ_r, inQ_x, retQ_n, retQ_r, exD, AOp.isH, keepN, preB, avalP, pureR, astep, stV, stN, stE, stC, aval, anew, aElems, frzS, frzH, aeff, slots, aret, ares, aress, AV.isTup, eqFs, aEqS, ofC_i, ofC_b, ofC_s, ofC_U, getD_mapU, getD_Bs, Bs_len, Int.toNat_natCast, opd, pt, tk, subp, rdP, Rt.size, Rt.isAgg, Rt.zv, aBin, aInt, aStr, arI, aUn, aToInt, aToStr, aIdxS, zv, aIdxA, aIa, aIaA, aFa, aLd, aFld, pparts, aLo, aHi, cutL, aSlS, aSl, aExt, aNck, aNilc, AV.isStr, aLen, AV.one, AV.multi, pureB, szOk, psz, drp, spl, aEqB, aEqA, aMm, aMkfn, aMkif, aBuild, toV, aBuildA, wrP, unparts, view, nilS, St.ev, lk, St.put, St.pin, St.pinV, acall0, acall1, acall2, acall3, bor, bor0, bor1, phiL_nil, phiL_at, tau, lentO, okIds, flatC, flatB, flatOs, flatO, flatPs, place, setAll_nil, setAll_cons, nodupB, renObj, closeIds, addNew, idsOf, idsObj, posOf, lenOk_0, lenOk_1, lenOk_2, lenOk_3, lenOk_4, lenOk_8, ↓reduceIte, Option.isSome_none, Option.isSome_some, Bool.or_true, Bool.true_or,  Nat.reduceEqDiff, Nat.reduceBEq, Nat.reduceSub, Nat.reduceLT, beq_self_eq_true, List.map, List.set, List.map_cons, List.map_nil, List.flatMap_cons, List.flatMap_nil, List.flatten_cons, List.flatten_nil, true_and, and_true, List.length_cons, List.length_nil, Nat.reduceAdd, Nat.reduceLeDiff, List.nil_append, List.cons_append, List.append_nil, Option.map, mapO, ren, kp, kpI, ent, nilG, Option.bind, List.range, List.range.loop, List.getElem?_cons_zero, List.getElem?_cons_succ, List.getElem?_nil, List.getD_cons_zero, List.getD_cons_succ, List.drop_zero, List.drop_succ_cons, List.drop_nil, List.take_zero, List.take_succ_cons, List.all_cons, List.all_nil, List.isEmpty_nil, List.isEmpty_cons, Bool.and_true, Bool.true_and, Bool.not_true, Bool.not_false, List.contains_nil, reduceCtorEq, List.contains_cons, Bool.or_false, Bool.false_or, eq_self, forall_const, false_implies, Bool.false_eq_true, Nat.le_refl, List.length_map, List.length_set, List.length_replicate, and_self, implies_true]
      simp only [Bool.false_eq_true, renObj, finP, finI, closeIds, addNew, idsOf, List.flatMap_nil, List.flatMap_cons, List.append_nil, List.nil_append, List.take_zero, nodupB, posOf, idsObj, List.getD_cons_zero, List.getD_cons_succ, List.range, List.range.loop, ren, lentO, mapO, Option.map, ↓reduceIte, Nat.reduceEqDiff, true_and, and_true, List.getElem?_cons_zero, List.getElem?_cons_succ, Nat.reduceAdd, List.contains_nil, Bool.not_false, Bool.and_true, List.map_nil, List.map_cons, List.take_succ_cons]
  · cases hs
def c_cfs : ACode := (.seq (.reg none [⟨(some 4), (.mv (.c (.bool false))), none⟩]) (.seq (.reg none [⟨(some 5), (.mv (.t 0)), none⟩, ⟨(some 6), (.mv (.t 1)), none⟩, ⟨(some 7), (.call 64 [(.t 5), (.t 6)]), none⟩, ⟨(some 8), (.bin .geq (.t 7) (.c (.int .i64 0))), none⟩, ⟨(some 4), (.mv (.t 8)), none⟩]) .ret))
def r_cfs : List ARes := [(.t 4)]
theorem s_cfs : slimF Tryz.prog Tryz.f51 = some (c_cfs, r_cfs) := by kernel_rfl
theorem fiB_nn (ps : List (List UInt8)) : decide (0 ≤ fiB ps) = ps.any badP := by
  unfold fiB
  cases ps.any badP with
  | true => simp
  | false => rfl
def cfBadS : Spec := fun xs hp => match xs, hp with
  | [.sl 1 ps, .fn (.func g) [] []], [] => some ⟨.bool ((ps.map unS).any badP), [], g = 52 ∧ ps = (ps.map unS).map AV.str ∧ ps.length ≤ 1000000000000⟩
  | _, _ => none
theorem cfBad_ok : FnOk Tryz.prog 51 cfBadS := by
  refine fn_slim2 Tryz.func51 s_cfs (Φ := phiL [(64, [], ifBadS)]) (phi_cons ifBad_ok (by kernel_rfl) phi_nil) ?_
  intro xs hp r hs hp'
  unfold cfBadS at hs
  split at hs
  · injection hs with hs; subst hs
    rename_i qs g
    refine ⟨len_le (by kernel_rfl), ?_⟩
    obtain ⟨rfl, p2, p3⟩ := hp'
    simp only [c_cfs, r_cfs, ifBadS, fiB_nn, go_sem, Nat.reduceDiv, Nat.reduceMod, ↓reduceIte, Nat.reduceEqDiff, Nat.reduceBEq, Nat.reduceSub, Nat.reduceLT, Nat.reduceAdd, Nat.reduceLeDiff, reduceCtorEq, Int.reduceEq, Int.reduceNe, Int.reduceLT, Int.reduceLE, Int.reduceToNat]
    exact ⟨p2, p3⟩
  · cases hs
def c_cany : ACode := (.seq (.reg none [⟨(some 4), (.mv (.c (.bool false))), none⟩]) (.seq (.reg none [⟨(some 5), (.mv (.t 0)), none⟩, ⟨(some 6), (.mv (.t 1)), none⟩, ⟨(some 7), (.call 63 [(.t 5), (.t 6)]), none⟩, ⟨(some 8), (.bin .geq (.t 7) (.c (.int .i64 0))), none⟩, ⟨(some 4), (.mv (.t 8)), none⟩]) .ret))
def r_cany : List ARes := [(.t 4)]
theorem s_cany : slimF Tryz.prog Tryz.f50 = some (c_cany, r_cany) := by kernel_rfl
theorem any3 (s : List UInt8) : (s.any fun b => b == 0 || (b == 10 || b == 13)) = s.any ctlB := by
  congr 1
  funext b
  rw [Bool.eq_iff_iff]
  simp [ctlB, or_assoc]
def cany3S : Spec := fun xs hp => match xs, hp with
  | [.str s, .str p], [] => some ⟨.bool (s.any ctlB), [], p = [0, 10, 13] ∧ s.length < 4294967281⟩
  | _, _ => none
theorem cany3_ok : FnOk Tryz.prog 50 cany3S := by
  refine fn_slim2 Tryz.func50 s_cany (Φ := phiL [(63, [], idxAny3S)]) (phi_cons idxAny3_ok (by kernel_rfl) phi_nil) ?_
  intro xs hp r hs hp'
  unfold cany3S at hs
  split at hs
  · injection hs with hs; subst hs
    rename_i s p
    refine ⟨len_le (by kernel_rfl), ?_⟩
    obtain ⟨rfl, p2⟩ := hp'
    simp only [c_cany, r_cany, idxAny3S, indexAny_nn, go_sem, Nat.reduceDiv, Nat.reduceMod, ↓reduceIte, Nat.reduceEqDiff, Nat.reduceBEq, Nat.reduceSub, Nat.reduceLT, Nat.reduceAdd, Nat.reduceLeDiff, reduceCtorEq, Int.reduceEq, Int.reduceNe, Int.reduceLT, Int.reduceLE, Int.reduceToNat]
    exact ⟨p2, by rw [any3]⟩
  · cases hs
def c_nright : ACode := (.seq (.reg none [⟨(some 2), (.mv (.c (.bool false))), none⟩]) (.seq (.seq (.reg none [⟨(some 3), (.mv (.t 0)), none⟩, ⟨(some 4), (.len none true (.t 3)), none⟩, ⟨(some 5), (.bin .gtr (.t 4) (.c (.int .i64 255))), none⟩, ⟨(some 6), (.mv (.t 5)), none⟩, ⟨(some 7), (.mv (.t 0)), (some (6, false))⟩, ⟨(some 8), (.call 50 [(.t 7), (.c (.str [0, 10, 13]))]), (some (6, false))⟩, ⟨(some 9), (.pick (.t 6) (.c (.bool true)) (.t 8)), none⟩]) (.cond (.t 9) (.seq (.reg none [⟨(some 2), (.mv (.c (.bool false))), none⟩]) .ret) .skip)) (.seq (.reg none [⟨(some 10), (.mv (.t 0)), none⟩, ⟨(some 11), (.call 47 [(.t 10), (.c (.str [47]))]), none⟩, ⟨(some 12), (.call 51 [(.t 11), (.c (.fn (.func 52) [] []))]), none⟩, ⟨(some 13), (.un .not (.t 12)), none⟩, ⟨(some 2), (.mv (.t 13)), none⟩]) .ret)))
def r_nright : List ARes := [(.t 2)]
theorem s_nright : slimF Tryz.prog Tryz.f34 = some (c_nright, r_nright) := by kernel_rfl
def nrightS : Spec := fun xs hp => match xs, hp with
  | [.str s], [] => some ⟨.bool (rightP s), [], s.length ≤ 1000000000⟩
  | _, _ => none
theorem nright_ok : FnOk Tryz.prog 34 nrightS := by
  refine fn_slim2 Tryz.func34 s_nright (Φ := phiL [(50, [], cany3S), (47, [], splitS), (51, [], cfBadS)]) (phi_cons cany3_ok (by kernel_rfl) (phi_cons split_ok (by kernel_rfl) (phi_cons cfBad_ok (by kernel_rfl) phi_nil))) ?_
  intro xs hp r hs hp'
  unfold nrightS at hs
  split at hs
  · injection hs with hs; subst hs
    rename_i s
    have hp2 : s.length ≤ 1000000000 := hp'
    refine ⟨len_le (by kernel_rfl), ?_⟩
    have hlen := psl_join_len 47 s
    by_cases h1 : 255 < s.length
    · have d1 : decide ((255 : Int) < (s.length : Int)) = true := decide_eq_true (by omega)
      have e : rightP s = false := by unfold rightP; rw [decide_eq_true h1]; rfl
      simp only [c_nright, r_nright, cany3S, splitS, cfBadS, d1, e, go_sem, Nat.reduceDiv, Nat.reduceMod, ↓reduceIte, Nat.reduceEqDiff, Nat.reduceBEq, Nat.reduceSub, Nat.reduceLT, Nat.reduceAdd, Nat.reduceLeDiff, reduceCtorEq, Int.reduceEq, Int.reduceNe, Int.reduceLT, Int.reduceLE, Int.reduceToNat]
    · have d1 : decide ((255 : Int) < (s.length : Int)) = false := decide_eq_false (by omega)
      cases hc : s.any ctlB with
      | true =>
        have e : rightP s = false := by unfold rightP; rw [hc]; simp
        simp only [c_nright, r_nright, cany3S, splitS, cfBadS, d1, e, hc, go_sem, Nat.reduceDiv, Nat.reduceMod, ↓reduceIte, Nat.reduceEqDiff, Nat.reduceBEq, Nat.reduceSub, Nat.reduceLT, Nat.reduceAdd, Nat.reduceLeDiff, reduceCtorEq, Int.reduceEq, Int.reduceNe, Int.reduceLT, Int.reduceLE, Int.reduceToNat]
        omega
      | false =>
        have e : rightP s = !(psl 47 s).any badP := by unfold rightP; rw [hc, decide_eq_false h1]; simp
        simp only [c_nright, r_nright, cany3S, splitS, cfBadS, d1, e, hc, unS_map, go_sem, Nat.reduceDiv, Nat.reduceMod, ↓reduceIte, Nat.reduceEqDiff, Nat.reduceBEq, Nat.reduceSub, Nat.reduceLT, Nat.reduceAdd, Nat.reduceLeDiff, reduceCtorEq, Int.reduceEq, Int.reduceNe, Int.reduceLT, Int.reduceLE, Int.reduceToNat]
        exact ⟨by omega, by omega⟩
  · cases hs
end Go.Proofs.YtfabdnpeohpgnaaGreatDoor
