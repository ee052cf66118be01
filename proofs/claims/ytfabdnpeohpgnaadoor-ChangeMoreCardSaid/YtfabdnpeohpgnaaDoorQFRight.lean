import Derived.Test.YtfabdnpeohpgnaaDoorQFGExs
import Derived.Test.YtfabdnpeohpgnaaDoorChecked
import Derived.Test.YtfabdnpeohpgnaaDoorQFFDec
import Derived.Test.YtfabdnpeohpgnaaDoorQChgLaw
import Derived.Lib.ReplaceLaws
import Derived.Test.YtfabdnpeohpgnaaDoorQShelf
namespace Go.Proofs.YtfabdnpeohpgnaaDoor
set_option linter.all false
open Go.RowKit
open Go.Lib (indexAny)
def c_nrightc : ACode := (.seq (.reg none [⟨(some 2), (.mv (.c (.bool false))), none⟩]) (.seq (.reg none [⟨(some 3), (.mv (.t 0)), none⟩, ⟨(some 4), (.bin .eql (.t 3) (.c (.str []))), none⟩, ⟨(some 5), (.mv (.t 4)), none⟩, ⟨(some 6), (.mv (.t 0)), (some (5, false))⟩, ⟨(some 7), (.bin .eql (.t 6) (.c (.str [46]))), (some (5, false))⟩, ⟨(some 8), (.pick (.t 5) (.c (.bool true)) (.t 7)), none⟩, ⟨(some 9), (.mv (.t 8)), none⟩, ⟨(some 10), (.mv (.t 0)), (some (9, false))⟩, ⟨(some 11), (.bin .eql (.t 10) (.c (.str [46, 46]))), (some (9, false))⟩, ⟨(some 12), (.pick (.t 9) (.c (.bool true)) (.t 11)), none⟩, ⟨(some 2), (.mv (.t 12)), none⟩]) .ret))
def r_nrightc : List ARes := [(.t 2)]
theorem s_nrightc : slimF Tryd.prog Tryd.f39 = some (c_nrightc, r_nrightc) := by kernel_rfl
def badS : Spec := fun xs hp => match xs, hp with
  | [.str q], [] => some ⟨.bool (badP q), [], True⟩
  | _, _ => none
theorem bad_ok : FnOk Tryd.prog 39 badS := by
  refine fn_slim2 Tryd.func39 s_nrightc (Φ := phiL []) phi_nil ?_
  intro xs hp r hs hp'
  unfold badS at hs
  split at hs
  · injection hs with hs; subst hs
    rename_i q
    refine ⟨len_le (by kernel_rfl), ?_⟩
    rcases Classical.em (q = []) with h0 | h0
    · subst h0
      simp only [c_nrightc, r_nrightc, decide_true, go_sem, Nat.reduceDiv, Nat.reduceMod, ↓reduceIte, Nat.reduceEqDiff, Nat.reduceBEq, Nat.reduceSub, Nat.reduceLT, Nat.reduceAdd, Nat.reduceLeDiff, reduceCtorEq, Int.reduceEq, Int.reduceNe, Int.reduceLT, Int.reduceLE, Int.reduceToNat]
      simp [badP]
    · have d0 : decide (q = []) = false := decide_eq_false h0
      rcases Classical.em (q = [46]) with h1 | h1
      · have d1 : decide (q = [46]) = true := decide_eq_true h1
        simp only [c_nrightc, r_nrightc, d0, d1, go_sem, Nat.reduceDiv, Nat.reduceMod, ↓reduceIte, Nat.reduceEqDiff, Nat.reduceBEq, Nat.reduceSub, Nat.reduceLT, Nat.reduceAdd, Nat.reduceLeDiff, reduceCtorEq, Int.reduceEq, Int.reduceNe, Int.reduceLT, Int.reduceLE, Int.reduceToNat]
        simp [badP, d0, d1]
      · have d1 : decide (q = [46]) = false := decide_eq_false h1
        have e : badP q = decide (q = [46, 46]) := by unfold badP; rw [d0, d1]; rfl
        simp only [c_nrightc, r_nrightc, d0, d1, e, go_sem, Nat.reduceDiv, Nat.reduceMod, ↓reduceIte, Nat.reduceEqDiff, Nat.reduceBEq, Nat.reduceSub, Nat.reduceLT, Nat.reduceAdd, Nat.reduceLeDiff, reduceCtorEq, Int.reduceEq, Int.reduceNe, Int.reduceLT, Int.reduceLE, Int.reduceToNat]
  · cases hs
def b_ifs_0 : ACode := (.seq (.reg none [⟨(some 9), (.bin .lss (.t 8) (.t 7)), none⟩]) (.seq (.cond (.t 9) .skip (.exit 0)) (.seq (.block 1 (.seq (.reg none [⟨(some 10), (.mv (.t 8)), none⟩, ⟨(some 5), (.mv (.t 10)), none⟩]) (.seq (.reg none [⟨(some 11), (.mv (.t 1)), none⟩, ⟨(some 12), (.mv (.t 0)), none⟩, ⟨(some 13), (.mv (.t 5)), none⟩, ⟨(some 14), (.ia 1 (.str []) (.t 12) (.t 13)), none⟩, ⟨(some 15), (.ld (.one (.str [])) (.t 14)), none⟩, ⟨(some 16), (.callv (.t 11) [(.t 15)]), none⟩]) (.cond (.t 16) (.seq (.reg none [⟨(some 17), (.mv (.t 5)), none⟩, ⟨(some 4), (.mv (.t 17)), none⟩]) .ret) .skip)))) (.reg none [⟨(some 18), (.bin .add (.t 8) (.c (.int .i64 1))), none⟩, ⟨(some 8), (.mv (.t 18)), none⟩]))))
def t_ifs_0 : ACode := (.seq (.reg none [⟨(some 4), (.mv (.c (.int .i64 (-1)))), none⟩]) .ret)
def c_ifs : ACode := (.seq (.reg none [⟨(some 4), (.mv (.c (.int .i64 0))), none⟩]) (.seq (.seq (.reg none [⟨(some 6), (.mv (.t 0)), none⟩, ⟨(some 7), (.len none false (.t 6)), none⟩, ⟨(some 8), (.mv (.c (.int .i64 0))), none⟩]) (.block 0 (.loop b_ifs_0))) t_ifs_0))
def r_ifs : List ARes := [(.t 4)]
theorem s_ifs : slimF Tryd.prog Tryd.f51 = some (c_ifs, r_ifs) := by kernel_rfl
def fiB (ps : List (List UInt8)) : Int := if ps.any badP then (ps.findIdx badP : Int) else -1
def ifBadS : Spec := fun xs hp => match xs, hp with
  | [.sl 1 ps, .fn (.func g) [] []], [] => some ⟨.int .i64 (fiB (ps.map unS)), [], g = 39 ∧ ps = (ps.map unS).map AV.str ∧ ps.length ≤ 1000000000000⟩
  | _, _ => none
theorem ifBad_ok : FnOk Tryd.prog 51 ifBadS := by
  refine fn_slim Tryd.func51 s_ifs (Φ := phiL [(39, [], badS)]) (phi_cons bad_ok (by kernel_rfl) phi_nil) ?_
  intro xs hp r hs hp'
  unfold ifBadS at hs
  split at hs
  · injection hs with hs; subst hs
    rename_i qs g
    refine ⟨len_le (by kernel_rfl), ?_⟩
    obtain ⟨rfl, p2, p3⟩ := hp'
    generalize qs.map unS = ps at *
    subst p2
    rw [List.length_map] at p3
    simp only [c_ifs, r_ifs, awp_scope, noG_n, noG_r, noG_x, awp_skip, awp_reg, awp_draw, awp_seq, awp_cond, awp_block, awp_loop, awp_exit, awp_ret, arun_nil, arun_op, arun_gt, arun_gf, arunD_nil, arunD_op, arunD_gt, arunD_gf, aq_some, isB_t, isB_u, isB_f, isB_g, isB_p, isU_t, isU_b, ifB_t, ifB_f, thenQ_n, thenQ_x, thenQ_r, inQ_n, inQ_r, inQ_x, retQ_n, retQ_r, exD, AOp.isH, keepN, preB, avalP, pureR, astep, stV, stN, stE, stC, aval, anew, aElems, frzS, frzH, aeff, slots, aret, ares, aress, AV.isTup, eqFs, aEqS, ofC_i, ofC_b, ofC_s, ofC_U, getD_mapU, getD_Bs, Bs_len, Int.toNat_natCast, opd, pt, tk, subp, rdP, Rt.size, Rt.isAgg, Rt.zv, aBin, aInt, aStr, arI, aUn, aToInt, aToStr, aIdxS, zv, aIdxA, aIa, aIaA, aFa, aLd, aFld, pparts, aLo, aHi, cutL, aSlS, aSl, aExt, aNck, aNilc, AV.isStr, aLen, AV.one, AV.multi, pureB, szOk, psz, drp, spl, aEqB, aEqA, aMm, aMkfn, aMkif, aBuild, toV, aBuildA, wrP, unparts, view, nilS, St.ev, lk, St.put, St.pin, St.pinV, acall0, acall1, acall2, acall3, bor, bor0, bor1, phiL_nil, phiL_at, tau, lentO, okIds, flatC, flatB, flatOs, flatO, flatPs, place, setAll_nil, setAll_cons, nodupB, renObj, closeIds, addNew, idsOf, idsObj, posOf, lenOk_0, lenOk_1, lenOk_2, lenOk_3, lenOk_4, lenOk_8, ↓reduceIte, Option.isSome_none, Option.isSome_some, Bool.or_true, Bool.true_or,  Nat.reduceEqDiff, Nat.reduceBEq, Nat.reduceSub, Nat.reduceLT, beq_self_eq_true, List.map, List.set, List.map_cons, List.map_nil, List.flatMap_cons, List.flatMap_nil, List.flatten_cons, List.flatten_nil, true_and, and_true, List.length_cons, List.length_nil, Nat.reduceAdd, Nat.reduceLeDiff, List.nil_append, List.cons_append, List.append_nil, Option.map, mapO, ren, kp, kpI, ent, nilG, Option.bind, List.range, List.range.loop, List.getElem?_cons_zero, List.getElem?_cons_succ, List.getElem?_nil, List.getD_cons_zero, List.getD_cons_succ, List.drop_zero, List.drop_succ_cons, List.drop_nil, List.take_zero, List.take_succ_cons, List.all_cons, List.all_nil, List.isEmpty_nil, List.isEmpty_cons, Bool.and_true, Bool.true_and, Bool.not_true, Bool.not_false, List.contains_nil, reduceCtorEq, List.contains_cons, Bool.or_false, Bool.false_or, eq_self, forall_const, false_implies, Bool.false_eq_true, Nat.le_refl, List.length_map, List.length_set, List.length_replicate, and_self, implies_true]
    refine loop_at [] [0, 1, 7, 8] [] (fun i : Nat => ⟨[(0, .sl 1 (ps.map AV.str)), (1, .fn (.func 39) [] []), (7, .int .i64 (ps.length : Int)), (8, .int .i64 (i : Int))], []⟩) (fun i => i ≤ ps.findIdx badP) (fun i => ps.length - i) 0 rfl (by omega) ⟨rfl, rfl⟩ (fun i hi => ?_)
    have hle := List.findIdx_le_length (xs := ps) (p := badP)
    by_cases hil : i < ps.length
    · have c1 : decide ((i : Int) < (ps.length : Int)) = true := decide_eq_true (by omega)
      have hget : (ps.map AV.str).getD i (.str []) = .str (ps.getD i []) := by
        simp [List.getD_eq_getElem?_getD, List.getElem?_map, List.getElem?_eq_getElem hil]
      have hga : ps.getD i [] = ps[i] := by simp [List.getD_eq_getElem?_getD, List.getElem?_eq_getElem hil]
      simp only [b_ifs_0, r_ifs, t_ifs_0, badS, c1, hget, Int.toNat_natCast, awp_scope, noG_n, noG_r, noG_x, awp_skip, awp_reg, awp_draw, awp_seq, awp_cond, awp_block, awp_loop, awp_exit, awp_ret, arun_nil, arun_op, arun_gt, arun_gf, arunD_nil, arunD_op, arunD_gt, arunD_gf, aq_some, isB_t, isB_u, isB_f, isB_g, isB_p, isU_t, isU_b, ifB_t, ifB_f, thenQ_n, thenQ_x, thenQ_r, inQ_n, inQ_r, inQ_x, retQ_n, retQ_r, exD, AOp.isH, keepN, preB, avalP, pureR, astep, stV, stN, stE, stC, aval, anew, aElems, frzS, frzH, aeff, slots, aret, ares, aress, AV.isTup, eqFs, aEqS, ofC_i, ofC_b, ofC_s, ofC_U, getD_mapU, getD_Bs, Bs_len, Int.toNat_natCast, opd, pt, tk, subp, rdP, Rt.size, Rt.isAgg, Rt.zv, aBin, aInt, aStr, arI, aUn, aToInt, aToStr, aIdxS, zv, aIdxA, aIa, aIaA, aFa, aLd, aFld, pparts, aLo, aHi, cutL, aSlS, aSl, aExt, aNck, aNilc, AV.isStr, aLen, AV.one, AV.multi, pureB, szOk, psz, drp, spl, aEqB, aEqA, aMm, aMkfn, aMkif, aBuild, toV, aBuildA, wrP, unparts, view, nilS, St.ev, lk, St.put, St.pin, St.pinV, acall0, acall1, acall2, acall3, bor, bor0, bor1, phiL_nil, phiL_at, tau, lentO, okIds, flatC, flatB, flatOs, flatO, flatPs, place, setAll_nil, setAll_cons, nodupB, renObj, closeIds, addNew, idsOf, idsObj, posOf, lenOk_0, lenOk_1, lenOk_2, lenOk_3, lenOk_4, lenOk_8, ↓reduceIte, Option.isSome_none, Option.isSome_some, Bool.or_true, Bool.true_or,  Nat.reduceEqDiff, Nat.reduceBEq, Nat.reduceSub, Nat.reduceLT, beq_self_eq_true, List.map, List.set, List.map_cons, List.map_nil, List.flatMap_cons, List.flatMap_nil, List.flatten_cons, List.flatten_nil, true_and, and_true, List.length_cons, List.length_nil, Nat.reduceAdd, Nat.reduceLeDiff, List.nil_append, List.cons_append, List.append_nil, Option.map, mapO, ren, kp, kpI, ent, nilG, Option.bind, List.range, List.range.loop, List.getElem?_cons_zero, List.getElem?_cons_succ, List.getElem?_nil, List.getD_cons_zero, List.getD_cons_succ, List.drop_zero, List.drop_succ_cons, List.drop_nil, List.take_zero, List.take_succ_cons, List.all_cons, List.all_nil, List.isEmpty_nil, List.isEmpty_cons, Bool.and_true, Bool.true_and, Bool.not_true, Bool.not_false, List.contains_nil, reduceCtorEq, List.contains_cons, Bool.or_false, Bool.false_or, eq_self, forall_const, false_implies, Bool.false_eq_true, Nat.le_refl, List.length_map, List.length_set, List.length_replicate, and_self, implies_true]
      refine ⟨⟨by omega, by omega⟩, fun hb => ?_, fun hb => ?_⟩
      · rw [hga] at hb
        have hf : ps.findIdx badP = i := by
          have := List.not_of_lt_findIdx (xs := ps) (p := badP) (i := i)
          rcases Nat.lt_or_ge i (ps.findIdx badP) with h | h
          · exact absurd hb (by simpa using this h)
          · omega
        have hany : ps.any badP = true := List.any_eq_true.2 ⟨ps[i], List.getElem_mem _, hb⟩
        have e : fiB ps = (i : Int) := by unfold fiB; rw [hany, if_pos rfl, hf]
        simp only [e, Bool.false_eq_true, renObj, finP, finI, closeIds, addNew, idsOf, List.flatMap_nil, List.flatMap_cons, List.append_nil, List.nil_append, List.take_zero, nodupB, posOf, idsObj, List.getD_cons_zero, List.getD_cons_succ, List.range, List.range.loop, ren, lentO, mapO, Option.map, ↓reduceIte, Nat.reduceEqDiff, true_and, and_true, List.getElem?_cons_zero, List.getElem?_cons_succ, Nat.reduceAdd, List.contains_nil, Bool.not_false, Bool.and_true, List.map_nil, List.map_cons, List.take_succ_cons]
      · rw [hga] at hb
        have hf : i < ps.findIdx badP := by
          rcases Nat.lt_or_ge i (ps.findIdx badP) with h | h
          · exact h
          · have e : ps.findIdx badP = i := by omega
            have := List.findIdx_getElem (xs := ps) (p := badP) (w := by omega)
            simp only [e] at this
            rw [hb] at this; cases this
        exact ⟨by (first | omega | (simp only [lenOk, bytesOk, inI, IntKind.bits, List.length_append, Bs_len, List.length_cons, List.length_nil, List.length_map, List.length_take, List.length_drop, List.length_replicate]; omega)), i + 1, by omega, by omega, rfl⟩
    · have c1 : decide ((i : Int) < (ps.length : Int)) = false := decide_eq_false (by omega)
      have hn : ps.any badP = false := by
        rw [List.any_eq_false]
        intro x hx hb
        have := List.findIdx_lt_length_of_exists ⟨x, hx, hb⟩
        omega
      have e : fiB ps = -1 := by unfold fiB; rw [hn]; rfl
      simp only [b_ifs_0, r_ifs, t_ifs_0, badS, c1, e, awp_scope, noG_n, noG_r, noG_x, awp_skip, awp_reg, awp_draw, awp_seq, awp_cond, awp_block, awp_loop, awp_exit, awp_ret, arun_nil, arun_op, arun_gt, arun_gf, arunD_nil, arunD_op, arunD_gt, arunD_gf, aq_some, isB_t, isB_u, isB_f, isB_g, isB_p, isU_t, isU_b, ifB_t, ifB_f, thenQ_n, thenQ_x, thenQ_r, inQ_n, inQ_r, inQ_x, retQ_n, retQ_r, exD, AOp.isH, keepN, preB, avalP, pureR, astep, stV, stN, stE, stC, aval, anew, aElems, frzS, frzH, aeff, slots, aret, ares, aress, AV.isTup, eqFs, aEqS, ofC_i, ofC_b, ofC_s, ofC_U, getD_mapU, getD_Bs, Bs_len, Int.toNat_natCast, opd, pt, tk, subp, rdP, Rt.size, Rt.isAgg, Rt.zv, aBin, aInt, aStr, arI, aUn, aToInt, aToStr, aIdxS, zv, aIdxA, aIa, aIaA, aFa, aLd, aFld, pparts, aLo, aHi, cutL, aSlS, aSl, aExt, aNck, aNilc, AV.isStr, aLen, AV.one, AV.multi, pureB, szOk, psz, drp, spl, aEqB, aEqA, aMm, aMkfn, aMkif, aBuild, toV, aBuildA, wrP, unparts, view, nilS, St.ev, lk, St.put, St.pin, St.pinV, acall0, acall1, acall2, acall3, bor, bor0, bor1, phiL_nil, phiL_at, tau, lentO, okIds, flatC, flatB, flatOs, flatO, flatPs, place, setAll_nil, setAll_cons, nodupB, renObj, closeIds, addNew, idsOf, idsObj, posOf, lenOk_0, lenOk_1, lenOk_2, lenOk_3, lenOk_4, lenOk_8, ↓reduceIte, Option.isSome_none, Option.isSome_some, Bool.or_true, Bool.true_or,  Nat.reduceEqDiff, Nat.reduceBEq, Nat.reduceSub, Nat.reduceLT, beq_self_eq_true, List.map, List.set, List.map_cons, List.map_nil, List.flatMap_cons, List.flatMap_nil, List.flatten_cons, List.flatten_nil, true_and, and_true, List.length_cons, List.length_nil, Nat.reduceAdd, Nat.reduceLeDiff, List.nil_append, List.cons_append, List.append_nil, Option.map, mapO, ren, kp, kpI, ent, nilG, Option.bind, List.range, List.range.loop, List.getElem?_cons_zero, List.getElem?_cons_succ, List.getElem?_nil, List.getD_cons_zero, List.getD_cons_succ, List.drop_zero, List.drop_succ_cons, List.drop_nil, List.take_zero, List.take_succ_cons, List.all_cons, List.all_nil, List.isEmpty_nil, List.isEmpty_cons, Bool.and_true, Bool.true_and, Bool.not_true, Bool.not_false, List.contains_nil, reduceCtorEq, List.contains_cons, Bool.or_false, Bool.false_or, eq_self, forall_const, false_implies, Bool.false_eq_true, Nat.le_refl, List.length_map, List.length_set, List.length_replicate, and_self, implies_true]
      simp only [Bool.false_eq_true, renObj, finP, finI, closeIds, addNew, idsOf, List.flatMap_nil, List.flatMap_cons, List.append_nil, List.nil_append, List.take_zero, nodupB, posOf, idsObj, List.getD_cons_zero, List.getD_cons_succ, List.range, List.range.loop, ren, lentO, mapO, Option.map, ↓reduceIte, Nat.reduceEqDiff, true_and, and_true, List.getElem?_cons_zero, List.getElem?_cons_succ, Nat.reduceAdd, List.contains_nil, Bool.not_false, Bool.and_true, List.map_nil, List.map_cons, List.take_succ_cons]
  · cases hs
def c_cfs : ACode := (.seq (.reg none [⟨(some 4), (.mv (.c (.bool false))), none⟩]) (.seq (.reg none [⟨(some 5), (.mv (.t 0)), none⟩, ⟨(some 6), (.mv (.t 1)), none⟩, ⟨(some 7), (.call 51 [(.t 5), (.t 6)]), none⟩, ⟨(some 8), (.bin .geq (.t 7) (.c (.int .i64 0))), none⟩, ⟨(some 4), (.mv (.t 8)), none⟩]) .ret))
def r_cfs : List ARes := [(.t 4)]
theorem s_cfs : slimF Tryd.prog Tryd.f38 = some (c_cfs, r_cfs) := by kernel_rfl
theorem fiB_nn (ps : List (List UInt8)) : decide (0 ≤ fiB ps) = ps.any badP := by
  unfold fiB
  cases ps.any badP with
  | true => simp
  | false => rfl
def cfBadS : Spec := fun xs hp => match xs, hp with
  | [.sl 1 ps, .fn (.func g) [] []], [] => some ⟨.bool ((ps.map unS).any badP), [], g = 39 ∧ ps = (ps.map unS).map AV.str ∧ ps.length ≤ 1000000000000⟩
  | _, _ => none
theorem cfBad_ok : FnOk Tryd.prog 38 cfBadS := by
  refine fn_slim2 Tryd.func38 s_cfs (Φ := phiL [(51, [], ifBadS)]) (phi_cons ifBad_ok (by kernel_rfl) phi_nil) ?_
  intro xs hp r hs hp'
  unfold cfBadS at hs
  split at hs
  · injection hs with hs; subst hs
    rename_i qs g
    refine ⟨len_le (by kernel_rfl), ?_⟩
    obtain ⟨rfl, p2, p3⟩ := hp'
    simp only [c_cfs, r_cfs, ifBadS, fiB_nn, go_sem, Nat.reduceDiv, Nat.reduceMod, ↓reduceIte, Nat.reduceEqDiff, Nat.reduceBEq, Nat.reduceSub, Nat.reduceLT, Nat.reduceAdd, Nat.reduceLeDiff, reduceCtorEq, Int.reduceEq, Int.reduceNe, Int.reduceLT, Int.reduceLE, Int.reduceToNat]
    exact ⟨p2, p3⟩
  · cases hs
def c_cany : ACode := (.seq (.reg none [⟨(some 4), (.mv (.c (.bool false))), none⟩]) (.seq (.reg none [⟨(some 5), (.mv (.t 0)), none⟩, ⟨(some 6), (.mv (.t 1)), none⟩, ⟨(some 7), (.call 50 [(.t 5), (.t 6)]), none⟩, ⟨(some 8), (.bin .geq (.t 7) (.c (.int .i64 0))), none⟩, ⟨(some 4), (.mv (.t 8)), none⟩]) .ret))
def r_cany : List ARes := [(.t 4)]
theorem s_cany : slimF Tryd.prog Tryd.f37 = some (c_cany, r_cany) := by kernel_rfl
theorem any3 (s : List UInt8) : (s.any fun b => b == 0 || (b == 10 || b == 13)) = s.any ctlB := by
  congr 1
  funext b
  rw [Bool.eq_iff_iff]
  simp [ctlB, or_assoc]
def cany3S : Spec := fun xs hp => match xs, hp with
  | [.str s, .str p], [] => some ⟨.bool (s.any ctlB), [], p = [0, 10, 13] ∧ s.length < 4294967281⟩
  | _, _ => none
theorem cany3_ok : FnOk Tryd.prog 37 cany3S := by
  refine fn_slim2 Tryd.func37 s_cany (Φ := phiL [(50, [], idxAny3S)]) (phi_cons idxAny3_ok (by kernel_rfl) phi_nil) ?_
  intro xs hp r hs hp'
  unfold cany3S at hs
  split at hs
  · injection hs with hs; subst hs
    rename_i s p
    refine ⟨len_le (by kernel_rfl), ?_⟩
    obtain ⟨rfl, p2⟩ := hp'
    simp only [c_cany, r_cany, idxAny3S, indexAny_nn, go_sem, Nat.reduceDiv, Nat.reduceMod, ↓reduceIte, Nat.reduceEqDiff, Nat.reduceBEq, Nat.reduceSub, Nat.reduceLT, Nat.reduceAdd, Nat.reduceLeDiff, reduceCtorEq, Int.reduceEq, Int.reduceNe, Int.reduceLT, Int.reduceLE, Int.reduceToNat]
    exact ⟨p2, by rw [any3]⟩
  · cases hs
def c_nright : ACode := (.seq (.reg none [⟨(some 2), (.mv (.c (.bool false))), none⟩]) (.seq (.seq (.reg none [⟨(some 3), (.mv (.t 0)), none⟩, ⟨(some 4), (.len none true (.t 3)), none⟩, ⟨(some 5), (.bin .gtr (.t 4) (.c (.int .i64 255))), none⟩, ⟨(some 6), (.mv (.t 5)), none⟩, ⟨(some 7), (.mv (.t 0)), (some (6, false))⟩, ⟨(some 8), (.call 37 [(.t 7), (.c (.str [0, 10, 13]))]), (some (6, false))⟩, ⟨(some 9), (.pick (.t 6) (.c (.bool true)) (.t 8)), none⟩]) (.cond (.t 9) (.seq (.reg none [⟨(some 2), (.mv (.c (.bool false))), none⟩]) .ret) .skip)) (.seq (.reg none [⟨(some 10), (.mv (.t 0)), none⟩, ⟨(some 11), (.call 35 [(.t 10), (.c (.str [47]))]), none⟩, ⟨(some 12), (.call 38 [(.t 11), (.c (.fn (.func 39) [] []))]), none⟩, ⟨(some 13), (.un .not (.t 12)), none⟩, ⟨(some 2), (.mv (.t 13)), none⟩]) .ret)))
def r_nright : List ARes := [(.t 2)]
theorem s_nright : slimF Tryd.prog Tryd.f24 = some (c_nright, r_nright) := by kernel_rfl
def nrightS : Spec := fun xs hp => match xs, hp with
  | [.str s], [] => some ⟨.bool (rightP s), [], s.length ≤ 1000000000⟩
  | _, _ => none
theorem nright_ok : FnOk Tryd.prog 24 nrightS := by
  refine fn_slim2 Tryd.func24 s_nright (Φ := phiL [(37, [], cany3S), (35, [], splitS), (38, [], cfBadS)]) (phi_cons cany3_ok (by kernel_rfl) (phi_cons split_ok (by kernel_rfl) (phi_cons cfBad_ok (by kernel_rfl) phi_nil))) ?_
  intro xs hp r hs hp'
  unfold nrightS at hs
  split at hs
  · injection hs with hs; subst hs
    rename_i s
    have hp2 : s.length ≤ 1000000000 := hp'
    refine ⟨len_le (by kernel_rfl), ?_⟩
    have hlen := psl_join_len 47 s
    by_cases h1 : 255 < s.length
    · have d1 : decide ((255 : Int) < (s.length : Int)) = true := decide_eq_true (by omega)
      have e : rightP s = false := by unfold rightP; rw [decide_eq_true h1]; rfl
      simp only [c_nright, r_nright, cany3S, splitS, cfBadS, d1, e, go_sem, Nat.reduceDiv, Nat.reduceMod, ↓reduceIte, Nat.reduceEqDiff, Nat.reduceBEq, Nat.reduceSub, Nat.reduceLT, Nat.reduceAdd, Nat.reduceLeDiff, reduceCtorEq, Int.reduceEq, Int.reduceNe, Int.reduceLT, Int.reduceLE, Int.reduceToNat]
    · have d1 : decide ((255 : Int) < (s.length : Int)) = false := decide_eq_false (by omega)
      cases hc : s.any ctlB with
      | true =>
        have e : rightP s = false := by unfold rightP; rw [hc]; simp
        simp only [c_nright, r_nright, cany3S, splitS, cfBadS, d1, e, hc, go_sem, Nat.reduceDiv, Nat.reduceMod, ↓reduceIte, Nat.reduceEqDiff, Nat.reduceBEq, Nat.reduceSub, Nat.reduceLT, Nat.reduceAdd, Nat.reduceLeDiff, reduceCtorEq, Int.reduceEq, Int.reduceNe, Int.reduceLT, Int.reduceLE, Int.reduceToNat]
        omega
      | false =>
        have e : rightP s = !(psl 47 s).any badP := by unfold rightP; rw [hc, decide_eq_false h1]; simp
        simp only [c_nright, r_nright, cany3S, splitS, cfBadS, d1, e, hc, unS_map, go_sem, Nat.reduceDiv, Nat.reduceMod, ↓reduceIte, Nat.reduceEqDiff, Nat.reduceBEq, Nat.reduceSub, Nat.reduceLT, Nat.reduceAdd, Nat.reduceLeDiff, reduceCtorEq, Int.reduceEq, Int.reduceNe, Int.reduceLT, Int.reduceLE, Int.reduceToNat]
        exact ⟨by omega, by omega⟩
  · cases hs
end Go.Proofs.YtfabdnpeohpgnaaDoor
namespace Go.Proofs.YtfabdnpeohpgnaaDoor
set_option linter.all false
open Go.RowKit
open Go.Lib (index replaceAll)
theorem contains_1 (s : List UInt8) (c : UInt8) : Lib.contains s [c] = s.contains c := by
  unfold Lib.contains
  rw [Bool.eq_iff_iff]
  rcases Lib.index_spec s [c] with h1 | ⟨i, h1, h2, h3, h4⟩
  · have hn : c ∉ s := by
      intro hm
      obtain ⟨a, b, rfl, _⟩ := mem_split hm
      have := h1.2 a.length (by simp)
      rw [show a ++ c :: b = a ++ ([c] ++ b) from rfl, occAt_append] at this
      cases this
    have e : index s [c] = -1 := h1.1
    simp [e, hn]
  · have hm := List.mem_of_getElem? (occAt_1 h3)
    simp [h1, hm]
def containsS : Spec := fun xs hp => match xs, hp with
  | [.str s, .str [c]], [] => some ⟨.bool (s.contains c), [], s.length ≤ 1000000⟩
  | _, _ => none
theorem contains_ok : FnOk Tryd.prog 25 containsS := by
  refine fnok_of_calls fun xs0 hp r hs hp' => ?_
  unfold containsS at hs
  split at hs
  · rename_i s c
    injection hs with hs; subst hs
    have p1 : s.length ≤ 1000000 := hp'
    refine ⟨rfl, rfl, fun w S ρ args hS ha => ?_⟩
    obtain ⟨v, vs, rfl, hv, hr⟩ := ha.get _ _ rfl
    obtain ⟨u, us, rfl, hu, hr⟩ := hr.get _ _ rfl
    obtain rfl := hr.none
    rw [hv.str, hu.str]
    obtain ⟨m, hm⟩ := maxLen_cell ha.glob
    refine (Tryd.strings_Contains ⟨s.toArray⟩ ⟨[c].toArray⟩ m w (show s.length < 4294967281 by omega) hm).mono ?_
    rintro e w' ⟨rfl, rfl⟩
    refine ⟨_, rfl, Below.refl _ _, fun _ _ _ => ?_⟩
    show Vl _ _ _ (.bool (s.contains c)) (.bool (Lib.contains s [c]))
    rw [contains_1]
    exact Vl.bool' _
  · cases hs
end Go.Proofs.YtfabdnpeohpgnaaDoor
namespace Go.Proofs.YtfabdnpeohpgnaaDoor
set_option linter.all false
open Go.RowKit
open Go.Lib (index hasPrefix trimPrefix cut indexAny itoa)
theorem ascB_snoc : ∀ (l : List (List UInt8)) (x : List UInt8), ascB (l ++ [x]) = (ascB l && (l.getLast?.all fun y => Op.bytesLess y x))
  | [], x => rfl
  | [a], x => by simp [ascB]
  | a :: b :: r, x => by
    have ih := ascB_snoc (b :: r) x
    rw [List.cons_append, List.cons_append, ascB, ← List.cons_append, ih, ascB, Bool.and_assoc]
    simp
theorem ascB_take : ∀ (l : List (List UInt8)) (k : Nat), ascB l = true → ascB (l.take k) = true
  | [], k, h => by simp [ascB]
  | [a], k, h => by cases k <;> simp [ascB]
  | a :: b :: r, k, h => by
    rw [ascB, Bool.and_eq_true] at h
    match k with
    | 0 => rfl
    | 1 => rfl
    | k + 2 =>
      have ih := ascB_take (b :: r) (k + 1) h.2
      rw [List.take_succ_cons, List.take_succ_cons] at *
      rw [ascB, h.1, ih]; rfl
theorem asc_step (l : List (List UInt8)) {i : Nat} (h : i < l.length) : ascB (l.take (i + 1)) = (ascB (l.take i) && (decide (i = 0) || Op.bytesLess (l.getD (i - 1) []) l[i])) := by
  rw [List.take_add_one, List.getElem?_eq_getElem h, Option.toList_some, ascB_snoc]
  congr 1
  cases i with
  | zero => simp
  | succ i =>
    have : (l.take (i + 1)).getLast? = some (l.getD i []) := by
      rw [List.take_add_one, List.getElem?_eq_getElem (by omega), Option.toList_some, List.getLast?_append]
      simp [List.getD_eq_getElem?_getD, List.getElem?_eq_getElem (show i < l.length by omega)]
    rw [this]; simp
def grightS : Spec := fun xs hp => match xs, hp with
  | [.agg [(20, .blob m), (1, .str u), (1, .int .i64 t), (1, .int .i64 z), (1, .sl ke es), (1, .sl kf fs), (1, .str d)]], [] =>
    some ⟨.bool (rightH ⟨unV m, u, t, z, es.map unEx, fs.map unS, d⟩), [], es = (es.map unEx).map exV ∧ fs = (fs.map unS).map AV.str ∧ (ke = 2 ∨ es = []) ∧ (kf = 1 ∨ fs = []) ∧ es.length ≤ 1000000 ∧ fs.length ≤ 1000000 ∧
      (∀ x ∈ es.map unEx, x.1.length ≤ 1000000000) ∧ (∀ f ∈ fs.map unS, f.length ≤ 1000000000) ∧ u.length ≤ 1000000⟩
  | _, _ => none
def phiGR : Phi := phiL [(23, [], gkeyedS), (24, [], nrightS), (25, [], containsS)]
theorem phiGR_ok : PhiOk Tryd.prog phiGR := phi_cons gkeyed_ok (by kernel_rfl) (phi_cons nright_ok (by kernel_rfl) (phi_cons contains_ok (by kernel_rfl) phi_nil))
theorem phiGR_1 : phiGR 23 = some ([], gkeyedS) := rfl
theorem phiGR_2 : phiGR 24 = some ([], nrightS) := rfl
theorem phiGR_3 : phiGR 25 = some ([], containsS) := rfl
set_option maxHeartbeats 4000000 in
theorem gright_ok : FnOk Tryd.prog 13 grightS := by
  refine fn_slim2 Tryd.func13 s_gright phiGR_ok ?_
  intro xs hp r hs hp'
  unfold grightS at hs
  split at hs
  · injection hs with hs; subst hs
    rename_i m u t z ke es kf fs d
    obtain ⟨q1, q2, q3, q4, q5, q6, q7, q8, q9⟩ := hp'
    generalize unV m = m1 at *
    generalize es.map unEx = es at *
    subst q1
    generalize fs.map unS = fs at *
    subst q2
    rw [List.length_map] at q5 q6
    refine ⟨len_le (by kernel_rfl), ?_⟩
    have bad1 : (es.all fun x => keyedB x.1) = false → rightH ⟨m1, u, t, z, es, fs, d⟩ = false := fun h => by unfold rightH; simp only [h, Bool.and_false, Bool.false_and]
    have bad2 : ascB (es.map Prod.fst) = false → rightH ⟨m1, u, t, z, es, fs, d⟩ = false := fun h => by unfold rightH; simp only [h, Bool.and_false, Bool.false_and]
    have bad3 : fs.all rightP = false → rightH ⟨m1, u, t, z, es, fs, d⟩ = false := fun h => by unfold rightH; simp only [h, Bool.and_false, Bool.false_and]
    have bad4 : ascB fs = false → rightH ⟨m1, u, t, z, es, fs, d⟩ = false := fun h => by unfold rightH; simp only [h, Bool.and_false]
    simp only [c_gright, go_sem, Nat.reduceDiv, Nat.reduceMod, ↓reduceIte, Nat.reduceEqDiff, Nat.reduceBEq, Nat.reduceSub, Nat.reduceLT, Nat.reduceAdd, Nat.reduceLeDiff, reduceCtorEq, Int.reduceEq, Int.reduceNe, Int.reduceLT, Int.reduceLE, Int.reduceToNat]
    refine loop2P [] [1, 8, 9, 10] [0] (fun i : Nat => ⟨[(1, .ref 0 0 0), (8, .sl ke (es.map exV)), (9, .int .i64 (es.length : Int)), (10, .int .i64 (i : Int))], [.cells 31 [(20, .blob m), (1, .str u), (1, .int .i64 t), (1, .int .i64 z), (1, .sl ke (es.map exV)), (1, .sl kf (fs.map AV.str)), (1, .str d)]]⟩)
      (fun i => i ≤ es.length ∧ ((es.take i).all fun x => keyedB x.1) = true ∧ ascB ((es.map Prod.fst).take i) = true) (fun i => es.length - i) 0 (by rfl) ⟨Nat.zero_le _, by simp, by simp [ascB]⟩ ⟨rfl, by rfl⟩ (fun i hi R hR => ?_)
    obtain ⟨i1, i2, i3⟩ := hi
    by_cases hil : i < es.length
    · have c1 : decide ((i : Int) < (es.length : Int)) = true := decide_eq_true (by omega)
      have hk : ke = 2 := q3.resolve_right (by intro h; have := congrArg List.length h; simp at this; rw [this] at hil; simp at hil)
      have hz : (AV.agg [(1, AV.str []), (1, AV.str [])]) = exV ([], []) := rfl
      have hget := getD_map exV es ([], []) (AV.agg [(1, AV.str []), (1, AV.str [])]) hil
      have hga : es.getD i ([], []) = es[i] := by simp [List.getD_eq_getElem?_getD, List.getElem?_eq_getElem hil]
      have hlen := q7 es[i] (List.getElem_mem _)
      have hst := asc_step (es.map Prod.fst) (i := i) (by rw [List.length_map]; exact hil)
      rw [List.getElem_map] at hst
      have htk : (es.take (i + 1)).all (fun x => keyedB x.1) = keyedB es[i].1 := by
        rw [List.take_add_one, List.getElem?_eq_getElem hil, Option.toList_some, List.all_append, i2]; simp
      have hmem : es[i] ∈ es := List.getElem_mem _
      have hall : keyedB es[i].1 = false → (es.all fun x => keyedB x.1) = false := fun h => List.all_eq_false.2 ⟨es[i], hmem, by rw [h]; simp⟩
      have hasc : ascB ((es.map Prod.fst).take (i + 1)) = false → ascB (es.map Prod.fst) = false := fun h => by
        cases hh : ascB (es.map Prod.fst) with
        | false => rfl
        | true => rw [ascB_take _ (i + 1) hh] at h; cases h
      rw [i3, Bool.true_and] at hst
      subst hk
      generalize hx : es[i] = x at *
      cases h1 : keyedB x.1 with
      | false =>
        rw [bad1 (hall h1)]
        simp only [b_gright_0, r_gright, c1, hget, hga, exV, h1, phiGR_1, gkeyedS, Int.toNat_natCast, List.length_map, go_sem, Nat.reduceDiv, Nat.reduceMod, ↓reduceIte, Nat.reduceEqDiff, Nat.reduceBEq, Nat.reduceSub, Nat.reduceLT, Nat.reduceAdd, Nat.reduceLeDiff, reduceCtorEq, Int.reduceEq, Int.reduceNe, Int.reduceLT, Int.reduceLE, Int.reduceToNat]
        exact ⟨⟨by omega, by omega⟩, hlen⟩
      | true =>
        rw [h1] at htk
        by_cases h0 : i = 0
        · have d0 : decide (0 < (i : Int)) = false := decide_eq_false (by omega)
          rw [decide_eq_true h0, Bool.true_or] at hst
          simp only [b_gright_0, r_gright, c1, d0, hget, hga, exV, h1, phiGR_1, gkeyedS, Int.toNat_natCast, List.length_map, go_sem, Nat.reduceDiv, Nat.reduceMod, ↓reduceIte, Nat.reduceEqDiff, Nat.reduceBEq, Nat.reduceSub, Nat.reduceLT, Nat.reduceAdd, Nat.reduceLeDiff, reduceCtorEq, Int.reduceEq, Int.reduceNe, Int.reduceLT, Int.reduceLE, Int.reduceToNat]
          exact ⟨⟨by omega, by omega⟩, hlen, ⟨by omega, by omega⟩, hR _ (i + 1) ⟨hil, htk, hst⟩ (by omega) rfl⟩
        · have d0 : decide (0 < (i : Int)) = true := decide_eq_true (by omega)
          rw [decide_eq_false h0, Bool.false_or] at hst
          have e1 : ((i : Int) - 1).toNat = i - 1 := by omega
          have hget1 := getD_map exV es ([], []) (AV.agg [(1, AV.str []), (1, AV.str [])]) (show i - 1 < es.length by omega)
          have hkg : (es.map Prod.fst).getD (i - 1) [] = (es.getD (i - 1) ([], [])).1 := by
            simp [List.getD_eq_getElem?_getD, List.getElem?_eq_getElem (show i - 1 < es.length by omega)]
          rw [hkg] at hst
          cases h2 : Op.bytesLess (es.getD (i - 1) ([], [])).1 x.1 with
          | true =>
            rw [h2] at hst
            simp only [b_gright_0, r_gright, c1, d0, e1, hget, hget1, hga, exV, h1, h2, phiGR_1, gkeyedS, Int.toNat_natCast, List.length_map, go_sem, Nat.reduceDiv, Nat.reduceMod, ↓reduceIte, Nat.reduceEqDiff, Nat.reduceBEq, Nat.reduceSub, Nat.reduceLT, Nat.reduceAdd, Nat.reduceLeDiff, reduceCtorEq, Int.reduceEq, Int.reduceNe, Int.reduceLT, Int.reduceLE, Int.reduceToNat]
            exact ⟨⟨by omega, by omega⟩, hlen, ⟨by omega, by omega⟩, ⟨by omega, by omega⟩, ⟨by omega, by omega⟩, hR _ (i + 1) ⟨hil, htk, hst⟩ (by omega) rfl⟩
          | false =>
            rw [h2] at hst
            rw [bad2 (hasc hst)]
            simp only [b_gright_0, r_gright, c1, d0, e1, hget, hget1, hga, exV, h1, h2, phiGR_1, gkeyedS, Int.toNat_natCast, List.length_map, go_sem, Nat.reduceDiv, Nat.reduceMod, ↓reduceIte, Nat.reduceEqDiff, Nat.reduceBEq, Nat.reduceSub, Nat.reduceLT, Nat.reduceAdd, Nat.reduceLeDiff, reduceCtorEq, Int.reduceEq, Int.reduceNe, Int.reduceLT, Int.reduceLE, Int.reduceToNat]
            exact ⟨⟨by omega, by omega⟩, hlen, ⟨by omega, by omega⟩, by omega, by omega⟩
    · have c1 : decide ((i : Int) < (es.length : Int)) = false := decide_eq_false (by omega)
      rw [List.take_of_length_le (by omega)] at i2
      rw [List.take_of_length_le (by rw [List.length_map]; omega)] at i3
      simp only [b_gright_0, t_gright_1, c1, go_sem, Nat.reduceDiv, Nat.reduceMod, ↓reduceIte, Nat.reduceEqDiff, Nat.reduceBEq, Nat.reduceSub, Nat.reduceLT, Nat.reduceAdd, Nat.reduceLeDiff, reduceCtorEq, Int.reduceEq, Int.reduceNe, Int.reduceLT, Int.reduceLE, Int.reduceToNat]
      refine loop2P [] [1, 37, 38, 39] [0] (fun j : Nat => ⟨[(1, .ref 0 0 0), (37, .sl kf (fs.map AV.str)), (38, .int .i64 (fs.length : Int)), (39, .int .i64 (j : Int))], [.cells 31 [(20, .blob m), (1, .str u), (1, .int .i64 t), (1, .int .i64 z), (1, .sl ke (es.map exV)), (1, .sl kf (fs.map AV.str)), (1, .str d)]]⟩)
        (fun j => j ≤ fs.length ∧ (fs.take j).all rightP = true ∧ ascB (fs.take j) = true) (fun j => fs.length - j) 0 (by rfl) ⟨Nat.zero_le _, by simp, by simp [ascB]⟩ ⟨rfl, by rfl⟩ (fun j hj R2 hR2 => ?_)
      obtain ⟨j1, j2, j3⟩ := hj
      by_cases hjl : j < fs.length
      · have d1 : decide ((j : Int) < (fs.length : Int)) = true := decide_eq_true (by omega)
        have hk : kf = 1 := q4.resolve_right (by intro h; have := congrArg List.length h; simp at this; rw [this] at hjl; simp at hjl)
        have hget := getD_map AV.str fs [] (AV.str []) hjl
        have hga : fs.getD j [] = fs[j] := by simp [List.getD_eq_getElem?_getD, List.getElem?_eq_getElem hjl]
        have hlen := q8 fs[j] (List.getElem_mem _)
        have hst := asc_step fs hjl
        have htk : (fs.take (j + 1)).all rightP = rightP fs[j] := by
          rw [List.take_add_one, List.getElem?_eq_getElem hjl, Option.toList_some, List.all_append, j2]; simp
        have hmem : fs[j] ∈ fs := List.getElem_mem _
        have hall : rightP fs[j] = false → fs.all rightP = false := fun h => List.all_eq_false.2 ⟨fs[j], hmem, by rw [h]; simp⟩
        have hasc : ascB (fs.take (j + 1)) = false → ascB fs = false := fun h => by
          cases hh : ascB fs with
          | false => rfl
          | true => rw [ascB_take _ (j + 1) hh] at h; cases h
        rw [j3, Bool.true_and] at hst
        subst hk
        generalize hx : fs[j] = x at *
        cases h1 : rightP x with
        | false =>
          rw [bad3 (hall h1)]
          simp only [b_gright_1, r_gright, d1, hget, hga, h1, phiGR_2, nrightS, Int.toNat_natCast, List.length_map, go_sem, Nat.reduceDiv, Nat.reduceMod, ↓reduceIte, Nat.reduceEqDiff, Nat.reduceBEq, Nat.reduceSub, Nat.reduceLT, Nat.reduceAdd, Nat.reduceLeDiff, reduceCtorEq, Int.reduceEq, Int.reduceNe, Int.reduceLT, Int.reduceLE, Int.reduceToNat]
          exact ⟨⟨by omega, by omega⟩, hlen⟩
        | true =>
          rw [h1] at htk
          by_cases h0 : j = 0
          · have d0 : decide (0 < (j : Int)) = false := decide_eq_false (by omega)
            rw [decide_eq_true h0, Bool.true_or] at hst
            simp only [b_gright_1, r_gright, d1, d0, hget, hga, h1, phiGR_2, nrightS, Int.toNat_natCast, List.length_map, go_sem, Nat.reduceDiv, Nat.reduceMod, ↓reduceIte, Nat.reduceEqDiff, Nat.reduceBEq, Nat.reduceSub, Nat.reduceLT, Nat.reduceAdd, Nat.reduceLeDiff, reduceCtorEq, Int.reduceEq, Int.reduceNe, Int.reduceLT, Int.reduceLE, Int.reduceToNat]
            exact ⟨⟨by omega, by omega⟩, hlen, ⟨by omega, by omega⟩, hR2 _ (j + 1) ⟨hjl, htk, hst⟩ (by omega) rfl⟩
          · have d0 : decide (0 < (j : Int)) = true := decide_eq_true (by omega)
            rw [decide_eq_false h0, Bool.false_or] at hst
            have e1 : ((j : Int) - 1).toNat = j - 1 := by omega
            have hget1 := getD_map AV.str fs [] (AV.str []) (show j - 1 < fs.length by omega)
            cases h2 : Op.bytesLess (fs.getD (j - 1) []) x with
            | true =>
              rw [h2] at hst
              simp only [b_gright_1, r_gright, d1, d0, e1, hget, hget1, hga, h1, h2, phiGR_2, nrightS, Int.toNat_natCast, List.length_map, go_sem, Nat.reduceDiv, Nat.reduceMod, ↓reduceIte, Nat.reduceEqDiff, Nat.reduceBEq, Nat.reduceSub, Nat.reduceLT, Nat.reduceAdd, Nat.reduceLeDiff, reduceCtorEq, Int.reduceEq, Int.reduceNe, Int.reduceLT, Int.reduceLE, Int.reduceToNat]
              exact ⟨⟨by omega, by omega⟩, hlen, ⟨by omega, by omega⟩, ⟨by omega, by omega⟩, ⟨by omega, by omega⟩, hR2 _ (j + 1) ⟨hjl, htk, hst⟩ (by omega) rfl⟩
            | false =>
              rw [h2] at hst
              rw [bad4 (hasc hst)]
              simp only [b_gright_1, r_gright, d1, d0, e1, hget, hget1, hga, h1, h2, phiGR_2, nrightS, Int.toNat_natCast, List.length_map, go_sem, Nat.reduceDiv, Nat.reduceMod, ↓reduceIte, Nat.reduceEqDiff, Nat.reduceBEq, Nat.reduceSub, Nat.reduceLT, Nat.reduceAdd, Nat.reduceLeDiff, reduceCtorEq, Int.reduceEq, Int.reduceNe, Int.reduceLT, Int.reduceLE, Int.reduceToNat]
              exact ⟨⟨by omega, by omega⟩, hlen, ⟨by omega, by omega⟩, by omega, by omega⟩
      · have d1 : decide ((j : Int) < (fs.length : Int)) = false := decide_eq_false (by omega)
        rw [List.take_of_length_le (by omega)] at j2 j3
        have hrr : rightH ⟨m1, u, t, z, es, fs, d⟩ = (((((!decide (u = []) && !u.contains 10) && decide (0 ≤ t)) && decide (t < 4611686018427387904)) && decide (-86399 ≤ z)) && decide (z ≤ 86399)) := by
          unfold rightH
          simp only [i2, i3, j2, j3, Bool.and_true]
          simp
        rw [hrr]
        cases a1 : decide (u = []) with
        | true => simp only [a1, b_gright_1, t_gright_0, r_gright, d1, phiGR_3, containsS, Bool.false_and, Bool.true_and, Bool.not_true, Bool.not_false, go_sem, Nat.reduceDiv, Nat.reduceMod, ↓reduceIte, Nat.reduceEqDiff, Nat.reduceBEq, Nat.reduceSub, Nat.reduceLT, Nat.reduceAdd, Nat.reduceLeDiff, reduceCtorEq, Int.reduceEq, Int.reduceNe, Int.reduceLT, Int.reduceLE, Int.reduceToNat]
        | false =>
        cases a2 : u.contains 10 with
        | true =>
          simp only [a1, a2, b_gright_1, t_gright_0, r_gright, d1, phiGR_3, containsS, Bool.false_and, Bool.true_and, Bool.not_true, Bool.not_false, go_sem, Nat.reduceDiv, Nat.reduceMod, ↓reduceIte, Nat.reduceEqDiff, Nat.reduceBEq, Nat.reduceSub, Nat.reduceLT, Nat.reduceAdd, Nat.reduceLeDiff, reduceCtorEq, Int.reduceEq, Int.reduceNe, Int.reduceLT, Int.reduceLE, Int.reduceToNat]
          exact q9
        | false =>
        cases a3 : decide (0 ≤ t) with
        | false =>
          simp only [a1, a2, a3, b_gright_1, t_gright_0, r_gright, d1, phiGR_3, containsS, Bool.false_and, Bool.true_and, Bool.not_true, Bool.not_false, go_sem, Nat.reduceDiv, Nat.reduceMod, ↓reduceIte, Nat.reduceEqDiff, Nat.reduceBEq, Nat.reduceSub, Nat.reduceLT, Nat.reduceAdd, Nat.reduceLeDiff, reduceCtorEq, Int.reduceEq, Int.reduceNe, Int.reduceLT, Int.reduceLE, Int.reduceToNat]
          exact q9
        | true =>
        cases a4 : decide (t < 4611686018427387904) with
        | false =>
          simp only [a1, a2, a3, a4, b_gright_1, t_gright_0, r_gright, d1, phiGR_3, containsS, Bool.false_and, Bool.true_and, Bool.not_true, Bool.not_false, go_sem, Nat.reduceDiv, Nat.reduceMod, ↓reduceIte, Nat.reduceEqDiff, Nat.reduceBEq, Nat.reduceSub, Nat.reduceLT, Nat.reduceAdd, Nat.reduceLeDiff, reduceCtorEq, Int.reduceEq, Int.reduceNe, Int.reduceLT, Int.reduceLE, Int.reduceToNat]
          exact q9
        | true =>
        cases a5 : decide (-86399 ≤ z) with
        | false =>
          simp only [a1, a2, a3, a4, a5, b_gright_1, t_gright_0, r_gright, d1, phiGR_3, containsS, Bool.false_and, Bool.true_and, Bool.not_true, Bool.not_false, go_sem, Nat.reduceDiv, Nat.reduceMod, ↓reduceIte, Nat.reduceEqDiff, Nat.reduceBEq, Nat.reduceSub, Nat.reduceLT, Nat.reduceAdd, Nat.reduceLeDiff, reduceCtorEq, Int.reduceEq, Int.reduceNe, Int.reduceLT, Int.reduceLE, Int.reduceToNat]
          exact q9
        | true =>
          simp only [a1, a2, a3, a4, a5, b_gright_1, t_gright_0, r_gright, d1, phiGR_3, containsS, Bool.false_and, Bool.true_and, Bool.not_true, Bool.not_false, go_sem, Nat.reduceDiv, Nat.reduceMod, ↓reduceIte, Nat.reduceEqDiff, Nat.reduceBEq, Nat.reduceSub, Nat.reduceLT, Nat.reduceAdd, Nat.reduceLeDiff, reduceCtorEq, Int.reduceEq, Int.reduceNe, Int.reduceLT, Int.reduceLE, Int.reduceToNat]
          exact q9
  · cases hs
end Go.Proofs.YtfabdnpeohpgnaaDoor
namespace Go.Proofs.YtfabdnpeohpgnaaDoor
set_option linter.all false
open Go.RowKit
open Go.Lib (index hasPrefix trimPrefix cut indexAny itoa)
def gparR (c : ChgL) (ok : Bool) (pr : Prop) : Option Ret :=
  if ok = true then some ⟨.tup [.agg [(20, .blob (c.man.map U)), (1, .str c.user), (1, .int .i64 c.time), (1, .int .i64 c.zone), (1, .own 0 c.extras.length), (1, .own 1 c.files.length), (1, .str c.desc)], .int .i64 0], [.row 44 2 c.extras.length (c.extras.map exV), .row 9 1 c.files.length (c.files.map AV.str)], pr⟩
  else some ⟨.tup [.agg [(20, .blob (List.replicate 20 (.int .u8 0))), (1, .str []), (1, .int .i64 0), (1, .int .i64 0), (1, .con (.slice none 0 0)), (1, .con (.slice none 0 0)), (1, .str [])], .int .i64 4], [], pr⟩
noncomputable def gparS : Spec := fun xs hp => match xs, hp with
  | [.sl 1 bs], [] => gparR (chgC (unB bs)) (chgB (unB bs)) (bs = Bs (unB bs) ∧ bs.length ≤ 1000000)
  | _, _ => none
theorem gparR_pre {c : ChgL} {ok : Bool} {pr : Prop} {r : Ret} (h : gparR c ok pr = some r) (hr : r.pre) : pr := by
  unfold gparR at h
  split at h <;> (injection h with h; subst h; exact hr)
noncomputable def phiGR2 : Phi := phiL [(19, [], glineS), (18, [], parseS), (20, [], cutS), (21, [], gnumS), (22, [], gexsS), (13, [], grightS)]
theorem phiGR2_ok : PhiOk Tryd.prog phiGR2 := phi_cons gline_ok (by kernel_rfl) (phi_cons parse_ok (by kernel_rfl) (phi_cons cut_ok (by kernel_rfl) (phi_cons gnum_ok (by kernel_rfl) (phi_cons gexs_ok (by kernel_rfl) (phi_cons gright_ok (by kernel_rfl) phi_nil)))))
theorem phiGR2_1 : phiGR2 19 = some ([], glineS) := rfl
theorem phiGR2_2 : phiGR2 18 = some ([], parseS) := rfl
theorem phiGR2_3 : phiGR2 20 = some ([], cutS) := rfl
theorem phiGR2_4 : phiGR2 21 = some ([], gnumS) := rfl
theorem phiGR2_5 : phiGR2 22 = some ([], gexsS) := rfl
theorem phiGR2_6 : phiGR2 13 = some ([], grightS) := rfl
def gst (m u : List UInt8) (t z e : Int) (es : List ExL) (x : List UInt8 × Bool × List (List UInt8)) : St :=
  ⟨[(2, .ref 0 0 0), (3, .int .i64 0), (4, .ref 1 0 0), (6, .int .i64 e), (7, .ref 2 0 0)],
    [.cells 31 [(20, .blob (List.replicate 20 (.int .u8 0))), (1, .str []), (1, .int .i64 0), (1, .int .i64 0), (1, .con (.slice none 0 0)), (1, .con (.slice none 0 0)), (1, .str [])],
      .cells 58 [(1, .str x.1), (1, .bool x.2.1)],
      .cells 31 [(20, .blob (m.map U)), (1, .str u), (1, .int .i64 t), (1, .int .i64 z), (1, .own 3 es.length), (1, .own 4 x.2.2.length), (1, .str [])],
      .row 44 2 es.length (es.map exV), .row 9 1 x.2.2.length (x.2.2.map AV.str)]⟩
set_option maxHeartbeats 4000000 in
theorem gpar_loop {m u : List UInt8} {t z e : Int} {es : List ExL} {s0 : List UInt8} {b0 : Bool} {s2 : S2} {nils : List (Nat × TypeId × Nat)} {ids : List Nat} {r : Ret} {pr : Prop} (hn : nodupB ids = true) (hl5 : ids.length = 5) (hk : ent nils [2, 3, 4, 6, 7] ids (toS s2) = some (gst m u t z e es (s0, b0, [])))
    (p1 : s0.length ≤ 1000000) (p2 : u.length ≤ 1000000) (p3 : es.length ≤ 1000000) (p4 : inI t) (p5 : inI z) (p6 : m.length = 20) (p7 : ∀ x ∈ es, x.1.length ≤ 1000000)
    (hr : r = (gparR ⟨m, u, t, z, es, (filesG (s0.length + 1) s0 b0 []).2.2, (filesG (s0.length + 1) s0 b0 []).1⟩ (decide (e = 0) && !(filesG (s0.length + 1) s0 b0 []).2.1 && rightH ⟨m, u, t, z, es, (filesG (s0.length + 1) s0 b0 []).2.2, (filesG (s0.length + 1) s0 b0 []).1⟩) pr).getD ⟨.tup [], [], True⟩) :
    loopQ2 0 (awp2 phiGR2 0 b_gpar_0) (inQ2 0 (thenQ2 (awp2 phiGR2 0 t_gpar_0 (retQ2 r_gpar 0 r)) (retQ2 r_gpar 0 r))) s2 := by
  refine loop2P nils [2, 3, 4, 6, 7] ids (gst m u t z e es) (fun x => (∃ f, x.1.length < f ∧ filesG f x.1 x.2.1 x.2.2 = filesG (s0.length + 1) s0 b0 []) ∧ x.1.length ≤ 1000000 ∧ x.2.2.length + x.1.length ≤ 1000000 ∧ (∀ g ∈ x.2.2, g.length ≤ 1000000)) (fun x => x.1.length) (s0, b0, []) hk ⟨⟨_, Nat.lt_succ_self _, rfl⟩, p1, by simpa using p1, by simp⟩ ⟨hn, by rfl⟩ (fun x hx R hR => ?_)
  obtain ⟨s, bd, acc⟩ := x
  obtain ⟨⟨f, f1, f2⟩, g1, g2, g3⟩ := hx
  simp only at f1 f2 g1 g2 g3
  cases bd with
  | true =>
    rw [filesG_true] at f2
    rw [← f2] at hr
    simp only [gst, b_gpar_0, go_sem, Nat.reduceDiv, Nat.reduceMod, ↓reduceIte, Nat.reduceEqDiff, Nat.reduceBEq, Nat.reduceSub, Nat.reduceLT, Nat.reduceAdd, Nat.reduceLeDiff, reduceCtorEq, Int.reduceEq, Int.reduceNe, Int.reduceLT, Int.reduceLE, Int.reduceToNat]
    cases he : decide (e = 0) with
    | false =>
      simp only [t_gpar_0, r_gpar, he, phiGR2_6, grightS, go_sem, Nat.reduceDiv, Nat.reduceMod, ↓reduceIte, Nat.reduceEqDiff, Nat.reduceBEq, Nat.reduceSub, Nat.reduceLT, Nat.reduceAdd, Nat.reduceLeDiff, reduceCtorEq, Int.reduceEq, Int.reduceNe, Int.reduceLT, Int.reduceLE, Int.reduceToNat]
      subst hr; rw [he]; exact ⟨rfl, rfl⟩
    | true =>
      simp only [t_gpar_0, r_gpar, he, phiGR2_6, grightS, go_sem, Nat.reduceDiv, Nat.reduceMod, ↓reduceIte, Nat.reduceEqDiff, Nat.reduceBEq, Nat.reduceSub, Nat.reduceLT, Nat.reduceAdd, Nat.reduceLeDiff, reduceCtorEq, Int.reduceEq, Int.reduceNe, Int.reduceLT, Int.reduceLE, Int.reduceToNat]
      subst hr; rw [he]; exact ⟨rfl, rfl⟩
  | false =>
    cases h1 : decide ((cut s [10]).1 = []) with
    | true =>
      have h1' := of_decide_eq_true h1
      have hs0 : filesG f s false acc = ((cut s [10]).2.1, !(cut s [10]).2.2, acc) := by
        obtain ⟨k, rfl⟩ : ∃ k, f = k + 1 := ⟨f - 1, by omega⟩
        rw [filesG, if_neg (by simp), if_pos h1']
      rw [← f2, hs0] at hr
      simp only at hr
      have hcl := cutl1' s [10]
      simp only [gst, b_gpar_0, h1, phiGR2_1, glineS, go_sem, Nat.reduceDiv, Nat.reduceMod, ↓reduceIte, Nat.reduceEqDiff, Nat.reduceBEq, Nat.reduceSub, Nat.reduceLT, Nat.reduceAdd, Nat.reduceLeDiff, reduceCtorEq, Int.reduceEq, Int.reduceNe, Int.reduceLT, Int.reduceLE, Int.reduceToNat]
      refine ⟨by omega, ?_⟩
      cases he : decide (e = 0) with
      | false =>
        simp only [t_gpar_0, r_gpar, he, phiGR2_6, grightS, go_sem, Nat.reduceDiv, Nat.reduceMod, ↓reduceIte, Nat.reduceEqDiff, Nat.reduceBEq, Nat.reduceSub, Nat.reduceLT, Nat.reduceAdd, Nat.reduceLeDiff, reduceCtorEq, Int.reduceEq, Int.reduceNe, Int.reduceLT, Int.reduceLE, Int.reduceToNat]
        subst hr; rw [he]; exact ⟨rfl, rfl⟩
      | true =>
        cases h2 : (cut s [10]).2.2 with
        | false =>
          simp only [t_gpar_0, r_gpar, he, phiGR2_6, grightS, go_sem, Nat.reduceDiv, Nat.reduceMod, ↓reduceIte, Nat.reduceEqDiff, Nat.reduceBEq, Nat.reduceSub, Nat.reduceLT, Nat.reduceAdd, Nat.reduceLeDiff, reduceCtorEq, Int.reduceEq, Int.reduceNe, Int.reduceLT, Int.reduceLE, Int.reduceToNat]
          subst hr; rw [he, h2]; exact ⟨rfl, rfl⟩
        | true =>
          cases hR : rightH ⟨m, u, t, z, es, acc, (cut s [10]).2.1⟩ with
          | false =>
            simp only [t_gpar_0, r_gpar, he, hR, phiGR2_6, grightS, unV_U, unEx_map, unS_map, List.length_map, go_sem, Nat.reduceDiv, Nat.reduceMod, ↓reduceIte, Nat.reduceEqDiff, Nat.reduceBEq, Nat.reduceSub, Nat.reduceLT, Nat.reduceAdd, Nat.reduceLeDiff, reduceCtorEq, Int.reduceEq, Int.reduceNe, Int.reduceLT, Int.reduceLE, Int.reduceToNat]
            subst hr; rw [he, h2, hR]
            exact ⟨⟨Or.inl trivial, Or.inl trivial, p3, by omega, fun x hx => by have := p7 x hx; omega, fun f hf => by have := g3 f hf; omega, p2⟩, rfl, rfl⟩
          | true =>
            simp only [t_gpar_0, r_gpar, he, hR, phiGR2_6, grightS, unV_U, unEx_map, unS_map, List.length_map, go_sem, Nat.reduceDiv, Nat.reduceMod, ↓reduceIte, Nat.reduceEqDiff, Nat.reduceBEq, Nat.reduceSub, Nat.reduceLT, Nat.reduceAdd, Nat.reduceLeDiff, reduceCtorEq, Int.reduceEq, Int.reduceNe, Int.reduceLT, Int.reduceLE, Int.reduceToNat]
            subst hr; rw [he, h2, hR]
            exact ⟨⟨Or.inl trivial, Or.inl trivial, p3, by omega, fun x hx => by have := p7 x hx; omega, fun f hf => by have := g3 f hf; omega, p2⟩, rfl, rfl⟩
    | false =>
      have h1' := of_decide_eq_false h1
      have hs0 : filesG f s false acc = filesG (f - 1) (cut s [10]).2.1 (!(cut s [10]).2.2) (acc ++ [(cut s [10]).1]) := by
        obtain ⟨k, rfl⟩ : ∃ k, f = k + 1 := ⟨f - 1, by omega⟩
        rw [filesG, if_neg (by simp), if_neg h1']; rfl
      have hlt : (cut s [10]).2.1.length + (cut s [10]).1.length ≤ s.length ∧ (cut s [10]).2.1.length < s.length := by
        cases h2 : (cut s [10]).2.2 with
        | true =>
          have e := congrArg List.length (cut1_t h2)
          simp only [List.length_append, List.length_cons] at e
          omega
        | false =>
          obtain ⟨k1, k2⟩ := cut_f h2
          rw [k1] at h1'
          have : 0 < s.length := List.length_pos_iff.2 h1'
          rw [k1, k2]; simp only [List.length_nil]; omega
      have hal : (acc ++ [(cut s [10]).1]).length = acc.length + 1 := by simp
      simp only [gst, b_gpar_0, h1, phiGR2_1, glineS, go_sem, Nat.reduceDiv, Nat.reduceMod, ↓reduceIte, Nat.reduceEqDiff, Nat.reduceBEq, Nat.reduceSub, Nat.reduceLT, Nat.reduceAdd, Nat.reduceLeDiff, reduceCtorEq, Int.reduceEq, Int.reduceNe, Int.reduceLT, Int.reduceLE, Int.reduceToNat]
      refine ⟨by omega, ⟨by (first | omega | (simp only [lenOk, bytesOk, inI, IntKind.bits, List.length_append, Bs_len, List.length_cons, List.length_nil, List.length_map, List.length_take, List.length_drop, List.length_replicate]; omega)), by (first | omega | (simp only [lenOk, bytesOk, inI, IntKind.bits, List.length_append, Bs_len, List.length_cons, List.length_nil, List.length_map, List.length_take, List.length_drop, List.length_replicate]; omega))⟩, hR _ ((cut s [10]).2.1, !(cut s [10]).2.2, acc ++ [(cut s [10]).1]) ⟨⟨f - 1, by simp only; omega, by rw [← f2, hs0]⟩, by simp only; omega, by simp only [hal]; omega, fun g hg => ?_⟩ hlt.2 ?_⟩
      · rcases List.mem_append.1 hg with hg | hg
        · exact g3 g hg
        · rw [List.mem_singleton.1 hg]; omega
      · simp only [gst, hal, hl5, List.map_append, List.map_cons, List.map_nil]
        rfl
end Go.Proofs.YtfabdnpeohpgnaaDoor
namespace Go.Proofs.YtfabdnpeohpgnaaDoor
set_option linter.all false
open Go.RowKit
open Go.Lib (index hasPrefix trimPrefix cut indexAny itoa)
theorem nmV_in (s : List UInt8) : inI (nmV s) := by
  have h1 := decN_lt s
  have h2 := decN_lt (s.drop 1)
  unfold nmV inI
  split <;> constructor <;> omega
theorem goodQ_err (l : List UInt8) : decide (pErr l = 0) = goodQ l := by
  unfold pErr
  cases goodQ l <;> rfl
set_option maxHeartbeats 8000000 in
theorem gpar_ok : FnOk Tryd.prog 8 gparS := by
  refine fn_slim2A Tryd.func8 s_gpar phiGR2_ok ?_
  intro xs hp r hs hp'
  unfold gparS at hs
  split at hs
  · rename_i bs
    obtain ⟨q1', q2'⟩ := gparR_pre hs hp'
    generalize unB bs = b at *
    subst q1'
    rw [Bs_len] at q2'
    refine ⟨len_le (by kernel_rfl), ?_⟩
    have hr : r = (gparR (chgC b) (chgB b) (Bs b = Bs b ∧ (Bs b).length ≤ 1000000)).getD ⟨.tup [], [], True⟩ := by rw [hs]; rfl
    obtain ⟨a1, a2⟩ := cutl1' b [10]
    obtain ⟨a3, a4⟩ := cutl1' (cut b [10]).2.1 [10]
    obtain ⟨a5, a6⟩ := cutl1' (cut (cut b [10]).2.1 [10]).2.1 [10]
    obtain ⟨a7, a8⟩ := cutl1' (cut (cut (cut b [10]).2.1 [10]).2.1 [10]).1 [32]
    obtain ⟨a9, a10⟩ := cutl1' (cut (cut (cut (cut b [10]).2.1 [10]).2.1 [10]).1 [32]).2.1 [32]
    have p1 : b.length < 4294967281 := by omega
    have p2 : (cut b [10]).1.length ≤ 1000000000 := by omega
    have p3 : (cut b [10]).2.1.length < 4294967281 := by omega
    have P1 := eq_true p1
    have P2 := eq_true p2
    have P3 := eq_true p3
    have hl20 : (pOut (cut b [10]).1).length = 20 := pOut_len _
    cases hz : (zP b).2.2 with
    | true =>
      have hbd : badH b = (bad0 b || (psl 0 (zP b).2.1).any fun o => !exOk o) := by unfold badH; rw [hz, Bool.true_and]
      have hex : exsP b = (psl 0 (zP b).2.1).map exP := by unfold exsP; rw [if_pos hz]
      have hz' := hz
      unfold zP tP q3 q2 q1 at hz
      simp (config := { maxSteps := 8000000 }) only [c_gpar, hz, phiGR2_1, phiGR2_2, phiGR2_3, phiGR2_4, phiGR2_5, phiGR2_6, glineS, parseS, cutS, gnumS, gexsS, P1, P2, P3, hl20, unB_Bs, any2, allD2, nextA2, stepA2, runT, Nat.reduceAnd, Nat.reduceOr, Nat.reducePow, go_sem, Nat.reduceDiv, Nat.reduceMod, ↓reduceIte, Nat.reduceEqDiff, Nat.reduceBEq, Nat.reduceSub, Nat.reduceLT, Nat.reduceAdd, Nat.reduceLeDiff, reduceCtorEq, Int.reduceEq, Int.reduceNe, Int.reduceLT, Int.reduceLE, Int.reduceToNat]
      refine ⟨by omega, by omega, by omega, by omega, by omega, by omega, ?_⟩
      refine gpar_loop (pr := Bs b = Bs b ∧ (Bs b).length ≤ 1000000) (m := pOut (q1 b).1) (u := (q2 b).1) (t := nmV (tP b).1) (z := nmV (zP b).1) (e := pErr (q1 b).1) (es := exsP b) (s0 := (q3 b).2.1) (b0 := badH b) (nils := [(4293, 9, 1)]) (ids := [0, 1, 3, 4, 5]) (by rfl) rfl ?_ ?_ ?_ ?_ ?_ ?_ hl20 ?_ ?_
      · rw [hbd, hex]; simp only [gst, List.length_map]; rfl
      · unfold q3 q2 q1; omega
      · unfold q2 q1; omega
      · rw [hex, List.length_map]
        have := psl_join_len 0 (zP b).2.1
        have ht := congrArg List.length (cut1_t (s := (tP b).2.1) (c := 32) hz')
        rw [List.length_append, List.length_cons] at ht
        unfold zP at this ⊢
        unfold tP q3 q2 q1 at this ht ⊢; omega
      · exact nmV_in _
      · exact nmV_in _
      · intro x hx
        rw [hex] at hx
        obtain ⟨o, ho, rfl⟩ := List.mem_map.1 hx
        have h1 := psl_mem_len 0 _ o ho
        have h2 := (cutl1' o [58]).1
        unfold zP tP q3 q2 q1 at h1
        show (cut o [58]).1.length ≤ 1000000
        omega
      · rw [hr, goodQ_err]; rfl
    | false =>
      have hbd : badH b = bad0 b := by unfold badH; rw [hz, Bool.false_and, Bool.or_false]
      have hex : exsP b = [] := by unfold exsP; rw [if_neg (by rw [hz]; simp)]
      have hz' := hz
      unfold zP tP q3 q2 q1 at hz
      simp (config := { maxSteps := 8000000 }) only [c_gpar, hz, phiGR2_1, phiGR2_2, phiGR2_3, phiGR2_4, phiGR2_5, phiGR2_6, glineS, parseS, cutS, gnumS, gexsS, P1, P2, P3, hl20, unB_Bs, any2, allD2, nextA2, stepA2, runT, Nat.reduceAnd, Nat.reduceOr, Nat.reducePow, go_sem, Nat.reduceDiv, Nat.reduceMod, ↓reduceIte, Nat.reduceEqDiff, Nat.reduceBEq, Nat.reduceSub, Nat.reduceLT, Nat.reduceAdd, Nat.reduceLeDiff, reduceCtorEq, Int.reduceEq, Int.reduceNe, Int.reduceLT, Int.reduceLE, Int.reduceToNat]
      refine ⟨by omega, by omega, by omega, by omega, by omega, ?_⟩
      refine gpar_loop (pr := Bs b = Bs b ∧ (Bs b).length ≤ 1000000) (m := pOut (q1 b).1) (u := (q2 b).1) (t := nmV (tP b).1) (z := nmV (zP b).1) (e := pErr (q1 b).1) (es := exsP b) (s0 := (q3 b).2.1) (b0 := badH b) (nils := [(4292, 44, 2), (4293, 9, 1)]) (ids := [0, 1, 3, 4, 5]) (by rfl) rfl ?_ ?_ ?_ ?_ ?_ ?_ hl20 ?_ ?_
      · rw [hbd, hex]; simp only [gst, List.length_nil, List.map_nil]; rfl
      · unfold q3 q2 q1; omega
      · unfold q2 q1; omega
      · rw [hex]; simp
      · exact nmV_in _
      · exact nmV_in _
      · rw [hex]; intro x hx; cases hx
      · rw [hr, goodQ_err]; rfl
  · cases hs
end Go.Proofs.YtfabdnpeohpgnaaDoor
namespace Go.Proofs.YtfabdnpeohpgnaaDoor
set_option linter.all false
open Go.RowKit
def c_ndec : ACode := (.seq (.reg none [⟨(some 2), (.mv (.c (.str []))), none⟩]) (.seq (.reg none [⟨(some 3), (.mv (.t 0)), none⟩, ⟨(some 4), (.call 26 [(.t 3)]), none⟩, ⟨(some 2), (.mv (.t 4)), none⟩]) .ret))
def r_ndec : List ARes := [(.t 2)]
theorem s_ndec : slimF Tryd.prog Tryd.f14 = some (c_ndec, r_ndec) := by kernel_rfl
theorem ndec_ok : FnOk Tryd.prog 14 itoaS := by
  refine fn_slim2 Tryd.func14 s_ndec (Φ := phiL [(26, [], itoaS)]) (phi_cons itoa_ok (by kernel_rfl) phi_nil) ?_
  intro xs hp r hs hp'
  unfold itoaS at hs
  split at hs
  · injection hs with hs; subst hs
    rename_i k
    refine ⟨len_le (by kernel_rfl), ?_⟩
    simp only [c_ndec, r_ndec, itoaS, go_sem, Nat.reduceDiv, Nat.reduceMod, ↓reduceIte, Nat.reduceEqDiff, Nat.reduceBEq, Nat.reduceSub, Nat.reduceLT, Nat.reduceAdd, Nat.reduceLeDiff, reduceCtorEq, Int.reduceEq, Int.reduceNe, Int.reduceLT, Int.reduceLE, Int.reduceToNat]
    first | exact hp' | exact ⟨hp', rfl⟩ | trivial
  · cases hs
end Go.Proofs.YtfabdnpeohpgnaaDoor
