import Derived.Test.YtfabdnpeohpgnaaGreatDoorQShelf
import Derived.Test.YtfabdnpeohpgnaaGreatDoorQFRepl
import Derived.Test.YtfabdnpeohpgnaaGreatDoorQFNRight
import Derived.Test.YtfabdnpeohpgnaaGreatDoorQT2p
import Derived.Test.YtfabdnpeohpgnaaGreatDoorQFGLine
namespace Go.Proofs.YtfabdnpeohpgnaaGreatDoor
set_option linter.all false
open Go.RowKit
open Go.Lib (decDigits itoa)
noncomputable def decP : Nat → List UInt8 := sealF fun n => if n = 0 then [] else decDigits n
theorem decP_0 : decP 0 = [] := by unfold decP; rw [sealF_eq]; rfl
theorem decP_pos {n : Nat} (h : 0 < n) : decP n = decDigits n := by unfold decP; rw [sealF_eq]; exact if_neg (by omega)
theorem decP_step {n : Nat} (h : 0 < n) : decP n = decP (n / 10) ++ [dc (n % 10)] := by
  rw [decP_pos h]
  by_cases h1 : n < 10
  · rw [decD_small h1, Nat.div_eq_of_lt h1, decP_0, Nat.mod_eq_of_lt h1]; rfl
  · rw [decD_big (by omega), decP_pos (by omega)]
theorem decD_last (n : Nat) : decP (n / 10) ++ [dc (n % 10)] = decDigits n := by
  by_cases h : n = 0
  · subst h; rw [decP_0, decD_small (by omega)]; rfl
  · rw [← decP_step (by omega), decP_pos (by omega)]
def b_rdec_0 : ACode := (.seq (.seq (.reg none [⟨(some 7), (.mv (.t 0)), none⟩, ⟨(some 8), (.bin .lss (.t 7) (.c (.int .i64 0))), none⟩]) (.cond (.t 8) .skip (.exit 0))) (.block 1 (.seq (.reg none [⟨(some 9), (.mv (.t 0)), none⟩, ⟨(some 10), (.bin .rem (.t 9) (.c (.int .i64 10))), none⟩, ⟨(some 11), (.bin .sub (.c (.int .i64 48)) (.t 10)), none⟩, ⟨(some 12), (.toInt .u8 (.t 11)), none⟩, ⟨(some 13), (.buildSl 5 1 [(.t 12)]), none⟩, ⟨(some 14), (.toStr (.t 13)), none⟩, ⟨(some 15), (.mv (.t 3)), none⟩, ⟨(some 16), (.bin .add (.t 14) (.t 15)), none⟩, ⟨(some 3), (.mv (.t 16)), none⟩]) (.reg none [⟨(some 17), (.mv (.t 0)), none⟩, ⟨(some 18), (.bin .quo (.t 17) (.c (.int .i64 10))), none⟩, ⟨(some 0), (.mv (.t 18)), none⟩]))))
def b_rdec_1 : ACode := (.seq (.seq (.reg none [⟨(some 29), (.mv (.t 0)), none⟩, ⟨(some 30), (.bin .gtr (.t 29) (.c (.int .i64 0))), none⟩]) (.cond (.t 30) .skip (.exit 2))) (.seq (.block 3 (.reg none [⟨(some 33), (.mv (.t 0)), none⟩, ⟨(some 34), (.bin .rem (.t 33) (.c (.int .i64 10))), none⟩, ⟨(some 35), (.bin .add (.c (.int .i64 48)) (.t 34)), none⟩, ⟨(some 36), (.toInt .u8 (.t 35)), none⟩, ⟨(some 37), (.buildSl 5 1 [(.t 36)]), none⟩, ⟨(some 38), (.toStr (.t 37)), none⟩, ⟨(some 39), (.mv (.t 4)), none⟩, ⟨(some 40), (.bin .add (.t 38) (.t 39)), none⟩, ⟨(some 4), (.mv (.t 40)), none⟩])) (.reg none [⟨(some 31), (.mv (.t 0)), none⟩, ⟨(some 32), (.bin .quo (.t 31) (.c (.int .i64 10))), none⟩, ⟨(some 0), (.mv (.t 32)), none⟩])))
def t_rdec_0 : ACode := (.seq (.reg none [⟨(some 41), (.mv (.t 4)), none⟩, ⟨(some 2), (.mv (.t 41)), none⟩]) .ret)
def t_rdec_1 : ACode := (.seq (.reg none [⟨(some 21), (.mv (.t 0)), none⟩, ⟨(some 22), (.bin .rem (.t 21) (.c (.int .i64 10))), none⟩, ⟨(some 23), (.bin .add (.c (.int .i64 48)) (.t 22)), none⟩, ⟨(some 24), (.toInt .u8 (.t 23)), none⟩, ⟨(some 25), (.buildSl 5 1 [(.t 24)]), none⟩, ⟨(some 26), (.toStr (.t 25)), none⟩, ⟨(some 4), (.mv (.t 26)), none⟩]) (.seq (.seq (.reg none [⟨(some 27), (.mv (.t 0)), none⟩, ⟨(some 28), (.bin .quo (.t 27) (.c (.int .i64 10))), none⟩, ⟨(some 0), (.mv (.t 28)), none⟩]) (.block 2 (.loop b_rdec_1))) t_rdec_0))
def c_rdec : ACode := (.seq (.reg none [⟨(some 2), (.mv (.c (.str []))), none⟩]) (.seq (.seq (.reg none [⟨(some 5), (.mv (.t 0)), none⟩, ⟨(some 6), (.bin .lss (.t 5) (.c (.int .i64 0))), none⟩]) (.cond (.t 6) (.seq (.reg none [⟨(some 3), (.mv (.c (.str []))), none⟩]) (.seq (.block 0 (.loop b_rdec_0)) (.seq (.reg none [⟨(some 19), (.mv (.t 3)), none⟩, ⟨(some 20), (.bin .add (.c (.str [45])) (.t 19)), none⟩, ⟨(some 2), (.mv (.t 20)), none⟩]) .ret))) .skip)) t_rdec_1))
def r_rdec : List ARes := [(.t 2)]
theorem s_rdec : slimF Tryz.prog Tryz.f22 = some (c_rdec, r_rdec) := by kernel_rfl
theorem rdec_ok : FnOk Tryz.prog 22 itoaS := by
  refine fn_slim Tryz.func22 s_rdec (Φ := phiL []) phi_nil ?_
  intro xs hp r hs hp'
  unfold itoaS at hs
  split at hs
  · injection hs with hs; subst hs
    rename_i n
    refine ⟨len_le (by kernel_rfl), ?_⟩
    have hn : inI n := hp'
    obtain ⟨hn1, hn2⟩ := hn
    by_cases hneg : n < 0
    · have d1 : decide (n < 0) = true := decide_eq_true hneg
      obtain ⟨m, rfl⟩ : ∃ m : Nat, n = -(m : Int) := ⟨n.natAbs, by omega⟩
      have hit : itoa (-(m : Int)) = 45 :: decDigits m := Lib.itoa_neg m (by omega)
      have hlen := decD_pow 18 m (by omega)
      simp only [c_rdec, d1, awp_scope, noG_n, noG_r, noG_x, awp_skip, awp_reg, awp_draw, awp_seq, awp_cond, awp_block, awp_loop, awp_exit, awp_ret, arun_nil, arun_op, arun_gt, arun_gf, arunD_nil, arunD_op, arunD_gt, arunD_gf, aq_some, isB_t, isB_u, isB_f, isB_g, isB_p, isU_t, isU_b, ifB_t, ifB_f, thenQ_n, thenQ_x, thenQ_r, inQ_n, inQ_r, inQ_x, retQ_n, retQ_r, exD, AOp.isH, keepN, preB, avalP, pureR, astep, stV, stN, stE, stC, aval, anew, aElems, frzS, frzH, aeff, slots, aret, ares, aress, AV.isTup, eqFs, aEqS, ofC_i, ofC_b, ofC_s, ofC_U, getD_mapU, getD_Bs, Bs_len, Int.toNat_natCast, opd, pt, tk, subp, rdP, Rt.size, Rt.isAgg, Rt.zv, aBin, aInt, aStr, arI, aUn, aToInt, aToStr, aIdxS, zv, aIdxA, aIa, aIaA, aFa, aLd, aFld, pparts, aLo, aHi, cutL, aSlS, aSl, aExt, aNck, aNilc, AV.isStr, aLen, AV.one, AV.multi, pureB, szOk, psz, drp, spl, aEqB, aEqA, aMm, aMkfn, aMkif, aBuild, toV, aBuildA, wrP, unparts, view, nilS, St.ev, lk, St.put, St.pin, St.pinV, acall0, acall1, acall2, acall3, bor, bor0, bor1, phiL_nil, phiL_at, tau, lentO, okIds, flatC, flatB, flatOs, flatO, flatPs, place, setAll_nil, setAll_cons, nodupB, renObj, closeIds, addNew, idsOf, idsObj, posOf, lenOk_0, lenOk_1, lenOk_2, lenOk_3, lenOk_4, lenOk_8, ↓reduceIte, Option.isSome_none, Option.isSome_some, Bool.or_true, Bool.true_or,  Nat.reduceEqDiff, Nat.reduceBEq, Nat.reduceSub, Nat.reduceLT, beq_self_eq_true, List.map, List.set, List.map_cons, List.map_nil, List.flatMap_cons, List.flatMap_nil, List.flatten_cons, List.flatten_nil, true_and, and_true, List.length_cons, List.length_nil, Nat.reduceAdd, Nat.reduceLeDiff, List.nil_append, List.cons_append, List.append_nil, Option.map, mapO, ren, kp, kpI, ent, nilG, Option.bind, List.range, List.range.loop, List.getElem?_cons_zero, List.getElem?_cons_succ, List.getElem?_nil, List.getD_cons_zero, List.getD_cons_succ, List.drop_zero, List.drop_succ_cons, List.drop_nil, List.take_zero, List.take_succ_cons, List.all_cons, List.all_nil, List.isEmpty_nil, List.isEmpty_cons, Bool.and_true, Bool.true_and, Bool.not_true, Bool.not_false, List.contains_nil, reduceCtorEq, List.contains_cons, Bool.or_false, Bool.false_or, eq_self, forall_const, false_implies, Bool.false_eq_true, Nat.le_refl, List.length_map, List.length_set, List.length_replicate, and_self, implies_true]
      refine loop_at [] [0, 3] [] (fun a : Nat × List UInt8 => ⟨[(0, .int .i64 (-(a.1 : Int))), (3, .str a.2)], []⟩) (fun a => decP a.1 ++ a.2 = decDigits m ∧ a.1 ≤ m) (fun a => a.1) (m, []) rfl ⟨by simp only [List.append_nil]; exact decP_pos (by omega), Nat.le_refl _⟩ ⟨rfl, rfl⟩ (fun a ha => ?_)
      obtain ⟨cur, s⟩ := a
      obtain ⟨ha, hb⟩ := ha
      simp only at ha hb
      have hl := congrArg List.length ha
      rw [List.length_append] at hl
      by_cases hc : cur = 0
      · subst hc
        have d2 : decide (-((0 : Nat) : Int) < 0) = false := decide_eq_false (by omega)
        rw [decP_0, List.nil_append] at ha
        subst ha
        simp only [b_rdec_0, r_rdec, d2, hit, awp_scope, noG_n, noG_r, noG_x, awp_skip, awp_reg, awp_draw, awp_seq, awp_cond, awp_block, awp_loop, awp_exit, awp_ret, arun_nil, arun_op, arun_gt, arun_gf, arunD_nil, arunD_op, arunD_gt, arunD_gf, aq_some, isB_t, isB_u, isB_f, isB_g, isB_p, isU_t, isU_b, ifB_t, ifB_f, thenQ_n, thenQ_x, thenQ_r, inQ_n, inQ_r, inQ_x, retQ_n, retQ_r, exD, AOp.isH, keepN, preB, avalP, pureR, astep, stV, stN, stE, stC, aval, anew, aElems, frzS, frzH, aeff, slots, aret, ares, aress, AV.isTup, eqFs, aEqS, ofC_i, ofC_b, ofC_s, ofC_U, getD_mapU, getD_Bs, Bs_len, Int.toNat_natCast, opd, pt, tk, subp, rdP, Rt.size, Rt.isAgg, Rt.zv, aBin, aInt, aStr, arI, aUn, aToInt, aToStr, aIdxS, zv, aIdxA, aIa, aIaA, aFa, aLd, aFld, pparts, aLo, aHi, cutL, aSlS, aSl, aExt, aNck, aNilc, AV.isStr, aLen, AV.one, AV.multi, pureB, szOk, psz, drp, spl, aEqB, aEqA, aMm, aMkfn, aMkif, aBuild, toV, aBuildA, wrP, unparts, view, nilS, St.ev, lk, St.put, St.pin, St.pinV, acall0, acall1, acall2, acall3, bor, bor0, bor1, phiL_nil, phiL_at, tau, lentO, okIds, flatC, flatB, flatOs, flatO, flatPs, place, setAll_nil, setAll_cons, nodupB, renObj, closeIds, addNew, idsOf, idsObj, posOf, lenOk_0, lenOk_1, lenOk_2, lenOk_3, lenOk_4, lenOk_8, ↓reduceIte, Option.isSome_none, Option.isSome_some, Bool.or_true, Bool.true_or,  Nat.reduceEqDiff, Nat.reduceBEq, Nat.reduceSub, Nat.reduceLT, beq_self_eq_true, List.map, List.set, List.map_cons, List.map_nil, List.flatMap_cons, List.flatMap_nil, List.flatten_cons, List.flatten_nil, true_and, and_true, List.length_cons, List.length_nil, Nat.reduceAdd, Nat.reduceLeDiff, List.nil_append, List.cons_append, List.append_nil, Option.map, mapO, ren, kp, kpI, ent, nilG, Option.bind, List.range, List.range.loop, List.getElem?_cons_zero, List.getElem?_cons_succ, List.getElem?_nil, List.getD_cons_zero, List.getD_cons_succ, List.drop_zero, List.drop_succ_cons, List.drop_nil, List.take_zero, List.take_succ_cons, List.all_cons, List.all_nil, List.isEmpty_nil, List.isEmpty_cons, Bool.and_true, Bool.true_and, Bool.not_true, Bool.not_false, List.contains_nil, reduceCtorEq, List.contains_cons, Bool.or_false, Bool.false_or, eq_self, forall_const, false_implies, Bool.false_eq_true, Nat.le_refl, List.length_map, List.length_set, List.length_replicate, and_self, implies_true]
        simp only [Bool.false_eq_true, renObj, finP, finI, closeIds, addNew, idsOf, List.flatMap_nil, List.flatMap_cons, List.append_nil, List.nil_append, List.take_zero, nodupB, posOf, idsObj, List.getD_cons_zero, List.getD_cons_succ, List.range, List.range.loop, ren, lentO, mapO, Option.map, ↓reduceIte, Nat.reduceEqDiff, true_and, and_true, List.getElem?_cons_zero, List.getElem?_cons_succ, Nat.reduceAdd, List.contains_nil, Bool.not_false, Bool.and_true, List.map_nil, List.map_cons, List.take_succ_cons]
        (first | omega | (simp only [lenOk, bytesOk, inI, IntKind.bits, List.length_append, Bs_len, List.length_cons, List.length_nil, List.length_map, List.length_take, List.length_drop, List.length_replicate]; omega))
      · have d2 : decide (-(cur : Int) < 0) = true := decide_eq_true (by omega)
        have e1 : (-(cur : Int)).tmod 10 = -((cur % 10 : Nat) : Int) := by rw [Int.neg_tmod, show (10 : Int) = ((10 : Nat) : Int) from rfl, tmod_nat]
        have e2 : (-(cur : Int)).tdiv 10 = -((cur / 10 : Nat) : Int) := by rw [Int.neg_tdiv, show (10 : Int) = ((10 : Nat) : Int) from rfl, tdiv_nat]
        have e3 : 48 - -((cur % 10 : Nat) : Int) = ((48 + cur % 10 : Nat) : Int) := by omega
        simp only [b_rdec_0, d2, e1, e2, e3, wrap8n (show 48 + cur % 10 < 256 by omega), Bs_o8 _ (show 48 + cur % 10 < 256 by omega), unB_Bs, awp_scope, noG_n, noG_r, noG_x, awp_skip, awp_reg, awp_draw, awp_seq, awp_cond, awp_block, awp_loop, awp_exit, awp_ret, arun_nil, arun_op, arun_gt, arun_gf, arunD_nil, arunD_op, arunD_gt, arunD_gf, aq_some, isB_t, isB_u, isB_f, isB_g, isB_p, isU_t, isU_b, ifB_t, ifB_f, thenQ_n, thenQ_x, thenQ_r, inQ_n, inQ_r, inQ_x, retQ_n, retQ_r, exD, AOp.isH, keepN, preB, avalP, pureR, astep, stV, stN, stE, stC, aval, anew, aElems, frzS, frzH, aeff, slots, aret, ares, aress, AV.isTup, eqFs, aEqS, ofC_i, ofC_b, ofC_s, ofC_U, getD_mapU, getD_Bs, Bs_len, Int.toNat_natCast, opd, pt, tk, subp, rdP, Rt.size, Rt.isAgg, Rt.zv, aBin, aInt, aStr, arI, aUn, aToInt, aToStr, aIdxS, zv, aIdxA, aIa, aIaA, aFa, aLd, aFld, pparts, aLo, aHi, cutL, aSlS, aSl, aExt, aNck, aNilc, AV.isStr, aLen, AV.one, AV.multi, pureB, szOk, psz, drp, spl, aEqB, aEqA, aMm, aMkfn, aMkif, aBuild, toV, aBuildA, wrP, unparts, view, nilS, St.ev, lk, St.put, St.pin, St.pinV, acall0, acall1, acall2, acall3, bor, bor0, bor1, phiL_nil, phiL_at, tau, lentO, okIds, flatC, flatB, flatOs, flatO, flatPs, place, setAll_nil, setAll_cons, nodupB, renObj, closeIds, addNew, idsOf, idsObj, posOf, lenOk_0, lenOk_1, lenOk_2, lenOk_3, lenOk_4, lenOk_8, ↓reduceIte, Option.isSome_none, Option.isSome_some, Bool.or_true, Bool.true_or,  Nat.reduceEqDiff, Nat.reduceBEq, Nat.reduceSub, Nat.reduceLT, beq_self_eq_true, List.map, List.set, List.map_cons, List.map_nil, List.flatMap_cons, List.flatMap_nil, List.flatten_cons, List.flatten_nil, true_and, and_true, List.length_cons, List.length_nil, Nat.reduceAdd, Nat.reduceLeDiff, List.nil_append, List.cons_append, List.append_nil, Option.map, mapO, ren, kp, kpI, ent, nilG, Option.bind, List.range, List.range.loop, List.getElem?_cons_zero, List.getElem?_cons_succ, List.getElem?_nil, List.getD_cons_zero, List.getD_cons_succ, List.drop_zero, List.drop_succ_cons, List.drop_nil, List.take_zero, List.take_succ_cons, List.all_cons, List.all_nil, List.isEmpty_nil, List.isEmpty_cons, Bool.and_true, Bool.true_and, Bool.not_true, Bool.not_false, List.contains_nil, reduceCtorEq, List.contains_cons, Bool.or_false, Bool.false_or, eq_self, forall_const, false_implies, Bool.false_eq_true, Nat.le_refl, List.length_map, List.length_set, List.length_replicate, and_self, implies_true]
        refine ⟨by omega, by (first | omega | (simp only [lenOk, bytesOk, inI, IntKind.bits, List.length_append, Bs_len, List.length_cons, List.length_nil, List.length_map, List.length_take, List.length_drop, List.length_replicate]; omega)), by (first | omega | (simp only [lenOk, bytesOk, inI, IntKind.bits, List.length_append, Bs_len, List.length_cons, List.length_nil, List.length_map, List.length_take, List.length_drop, List.length_replicate]; omega)), ⟨by omega, by (first | omega | (simp only [lenOk, bytesOk, inI, IntKind.bits, List.length_append, Bs_len, List.length_cons, List.length_nil, List.length_map, List.length_take, List.length_drop, List.length_replicate]; omega))⟩, (cur / 10, o8 (48 + cur % 10) :: s), ⟨?_, by simp only; omega⟩, by simp only; omega, rfl⟩
        rw [decP_step (by omega), List.append_assoc] at ha
        exact ha
    · have d1 : decide (n < 0) = false := decide_eq_false hneg
      obtain ⟨m, rfl⟩ : ∃ m : Nat, n = (m : Int) := ⟨n.natAbs, by omega⟩
      have hit : itoa (m : Int) = decDigits m := itoa_nat m
      have hlen := decD_pow 18 m (by omega)
      have e1 : ∀ c : Nat, (c : Int).tmod 10 = ((c % 10 : Nat) : Int) := fun c => tmod_nat c 10
      have e2 : ∀ c : Nat, (c : Int).tdiv 10 = ((c / 10 : Nat) : Int) := fun c => tdiv_nat c 10
      have e3 : ∀ c : Nat, 48 + ((c % 10 : Nat) : Int) = ((48 + c % 10 : Nat) : Int) := fun c => by omega
      simp only [c_rdec, t_rdec_1, d1, e1, e2, e3, wrap8n (show 48 + m % 10 < 256 by omega), Bs_o8 _ (show 48 + m % 10 < 256 by omega), unB_Bs, awp_scope, noG_n, noG_r, noG_x, awp_skip, awp_reg, awp_draw, awp_seq, awp_cond, awp_block, awp_loop, awp_exit, awp_ret, arun_nil, arun_op, arun_gt, arun_gf, arunD_nil, arunD_op, arunD_gt, arunD_gf, aq_some, isB_t, isB_u, isB_f, isB_g, isB_p, isU_t, isU_b, ifB_t, ifB_f, thenQ_n, thenQ_x, thenQ_r, inQ_n, inQ_r, inQ_x, retQ_n, retQ_r, exD, AOp.isH, keepN, preB, avalP, pureR, astep, stV, stN, stE, stC, aval, anew, aElems, frzS, frzH, aeff, slots, aret, ares, aress, AV.isTup, eqFs, aEqS, ofC_i, ofC_b, ofC_s, ofC_U, getD_mapU, getD_Bs, Bs_len, Int.toNat_natCast, opd, pt, tk, subp, rdP, Rt.size, Rt.isAgg, Rt.zv, aBin, aInt, aStr, arI, aUn, aToInt, aToStr, aIdxS, zv, aIdxA, aIa, aIaA, aFa, aLd, aFld, pparts, aLo, aHi, cutL, aSlS, aSl, aExt, aNck, aNilc, AV.isStr, aLen, AV.one, AV.multi, pureB, szOk, psz, drp, spl, aEqB, aEqA, aMm, aMkfn, aMkif, aBuild, toV, aBuildA, wrP, unparts, view, nilS, St.ev, lk, St.put, St.pin, St.pinV, acall0, acall1, acall2, acall3, bor, bor0, bor1, phiL_nil, phiL_at, tau, lentO, okIds, flatC, flatB, flatOs, flatO, flatPs, place, setAll_nil, setAll_cons, nodupB, renObj, closeIds, addNew, idsOf, idsObj, posOf, lenOk_0, lenOk_1, lenOk_2, lenOk_3, lenOk_4, lenOk_8, ↓reduceIte, Option.isSome_none, Option.isSome_some, Bool.or_true, Bool.true_or,  Nat.reduceEqDiff, Nat.reduceBEq, Nat.reduceSub, Nat.reduceLT, beq_self_eq_true, List.map, List.set, List.map_cons, List.map_nil, List.flatMap_cons, List.flatMap_nil, List.flatten_cons, List.flatten_nil, true_and, and_true, List.length_cons, List.length_nil, Nat.reduceAdd, Nat.reduceLeDiff, List.nil_append, List.cons_append, List.append_nil, Option.map, mapO, ren, kp, kpI, ent, nilG, Option.bind, List.range, List.range.loop, List.getElem?_cons_zero, List.getElem?_cons_succ, List.getElem?_nil, List.getD_cons_zero, List.getD_cons_succ, List.drop_zero, List.drop_succ_cons, List.drop_nil, List.take_zero, List.take_succ_cons, List.all_cons, List.all_nil, List.isEmpty_nil, List.isEmpty_cons, Bool.and_true, Bool.true_and, Bool.not_true, Bool.not_false, List.contains_nil, reduceCtorEq, List.contains_cons, Bool.or_false, Bool.false_or, eq_self, forall_const, false_implies, Bool.false_eq_true, Nat.le_refl, List.length_map, List.length_set, List.length_replicate, and_self, implies_true]
      refine ⟨by omega, by (first | omega | (simp only [lenOk, bytesOk, inI, IntKind.bits, List.length_append, Bs_len, List.length_cons, List.length_nil, List.length_map, List.length_take, List.length_drop, List.length_replicate]; omega)), ⟨by omega, by (first | omega | (simp only [lenOk, bytesOk, inI, IntKind.bits, List.length_append, Bs_len, List.length_cons, List.length_nil, List.length_map, List.length_take, List.length_drop, List.length_replicate]; omega))⟩, ?_⟩
      refine loop_at [] [0, 4] [] (fun a : Nat × List UInt8 => ⟨[(0, .int .i64 (a.1 : Int)), (4, .str a.2)], []⟩) (fun a => decP a.1 ++ a.2 = decDigits m ∧ a.1 ≤ m) (fun a => a.1) (m / 10, [o8 (48 + m % 10)]) rfl ⟨decD_last m, by simp only; omega⟩ ⟨rfl, rfl⟩ (fun a ha => ?_)
      obtain ⟨cur, s⟩ := a
      obtain ⟨ha, hb⟩ := ha
      simp only at ha hb
      have hl := congrArg List.length ha
      rw [List.length_append] at hl
      by_cases hc : cur = 0
      · subst hc
        have d2 : decide ((0 : Int) < ((0 : Nat) : Int)) = false := decide_eq_false (by omega)
        rw [decP_0, List.nil_append] at ha
        subst ha
        simp only [b_rdec_1, t_rdec_0, r_rdec, d2, hit, awp_scope, noG_n, noG_r, noG_x, awp_skip, awp_reg, awp_draw, awp_seq, awp_cond, awp_block, awp_loop, awp_exit, awp_ret, arun_nil, arun_op, arun_gt, arun_gf, arunD_nil, arunD_op, arunD_gt, arunD_gf, aq_some, isB_t, isB_u, isB_f, isB_g, isB_p, isU_t, isU_b, ifB_t, ifB_f, thenQ_n, thenQ_x, thenQ_r, inQ_n, inQ_r, inQ_x, retQ_n, retQ_r, exD, AOp.isH, keepN, preB, avalP, pureR, astep, stV, stN, stE, stC, aval, anew, aElems, frzS, frzH, aeff, slots, aret, ares, aress, AV.isTup, eqFs, aEqS, ofC_i, ofC_b, ofC_s, ofC_U, getD_mapU, getD_Bs, Bs_len, Int.toNat_natCast, opd, pt, tk, subp, rdP, Rt.size, Rt.isAgg, Rt.zv, aBin, aInt, aStr, arI, aUn, aToInt, aToStr, aIdxS, zv, aIdxA, aIa, aIaA, aFa, aLd, aFld, pparts, aLo, aHi, cutL, aSlS, aSl, aExt, aNck, aNilc, AV.isStr, aLen, AV.one, AV.multi, pureB, szOk, psz, drp, spl, aEqB, aEqA, aMm, aMkfn, aMkif, aBuild, toV, aBuildA, wrP, unparts, view, nilS, St.ev, lk, St.put, St.pin, St.pinV, acall0, acall1, acall2, acall3, bor, bor0, bor1, phiL_nil, phiL_at, tau, lentO, okIds, flatC, flatB, flatOs, flatO, flatPs, place, setAll_nil, setAll_cons, nodupB, renObj, closeIds, addNew, idsOf, idsObj, posOf, lenOk_0, lenOk_1, lenOk_2, lenOk_3, lenOk_4, lenOk_8, ↓reduceIte, Option.isSome_none, Option.isSome_some, Bool.or_true, Bool.true_or,  Nat.reduceEqDiff, Nat.reduceBEq, Nat.reduceSub, Nat.reduceLT, beq_self_eq_true, List.map, List.set, List.map_cons, List.map_nil, List.flatMap_cons, List.flatMap_nil, List.flatten_cons, List.flatten_nil, true_and, and_true, List.length_cons, List.length_nil, Nat.reduceAdd, Nat.reduceLeDiff, List.nil_append, List.cons_append, List.append_nil, Option.map, mapO, ren, kp, kpI, ent, nilG, Option.bind, List.range, List.range.loop, List.getElem?_cons_zero, List.getElem?_cons_succ, List.getElem?_nil, List.getD_cons_zero, List.getD_cons_succ, List.drop_zero, List.drop_succ_cons, List.drop_nil, List.take_zero, List.take_succ_cons, List.all_cons, List.all_nil, List.isEmpty_nil, List.isEmpty_cons, Bool.and_true, Bool.true_and, Bool.not_true, Bool.not_false, List.contains_nil, reduceCtorEq, List.contains_cons, Bool.or_false, Bool.false_or, eq_self, forall_const, false_implies, Bool.false_eq_true, Nat.le_refl, List.length_map, List.length_set, List.length_replicate, and_self, implies_true]
        simp only [Bool.false_eq_true, renObj, finP, finI, closeIds, addNew, idsOf, List.flatMap_nil, List.flatMap_cons, List.append_nil, List.nil_append, List.take_zero, nodupB, posOf, idsObj, List.getD_cons_zero, List.getD_cons_succ, List.range, List.range.loop, ren, lentO, mapO, Option.map, ↓reduceIte, Nat.reduceEqDiff, true_and, and_true, List.getElem?_cons_zero, List.getElem?_cons_succ, Nat.reduceAdd, List.contains_nil, Bool.not_false, Bool.and_true, List.map_nil, List.map_cons, List.take_succ_cons]
      · have d2 : decide ((0 : Int) < (cur : Int)) = true := decide_eq_true (by omega)
        simp only [b_rdec_1, d2, e1, e2, e3, wrap8n (show 48 + cur % 10 < 256 by omega), Bs_o8 _ (show 48 + cur % 10 < 256 by omega), unB_Bs, awp_scope, noG_n, noG_r, noG_x, awp_skip, awp_reg, awp_draw, awp_seq, awp_cond, awp_block, awp_loop, awp_exit, awp_ret, arun_nil, arun_op, arun_gt, arun_gf, arunD_nil, arunD_op, arunD_gt, arunD_gf, aq_some, isB_t, isB_u, isB_f, isB_g, isB_p, isU_t, isU_b, ifB_t, ifB_f, thenQ_n, thenQ_x, thenQ_r, inQ_n, inQ_r, inQ_x, retQ_n, retQ_r, exD, AOp.isH, keepN, preB, avalP, pureR, astep, stV, stN, stE, stC, aval, anew, aElems, frzS, frzH, aeff, slots, aret, ares, aress, AV.isTup, eqFs, aEqS, ofC_i, ofC_b, ofC_s, ofC_U, getD_mapU, getD_Bs, Bs_len, Int.toNat_natCast, opd, pt, tk, subp, rdP, Rt.size, Rt.isAgg, Rt.zv, aBin, aInt, aStr, arI, aUn, aToInt, aToStr, aIdxS, zv, aIdxA, aIa, aIaA, aFa, aLd, aFld, pparts, aLo, aHi, cutL, aSlS, aSl, aExt, aNck, aNilc, AV.isStr, aLen, AV.one, AV.multi, pureB, szOk, psz, drp, spl, aEqB, aEqA, aMm, aMkfn, aMkif, aBuild, toV, aBuildA, wrP, unparts, view, nilS, St.ev, lk, St.put, St.pin, St.pinV, acall0, acall1, acall2, acall3, bor, bor0, bor1, phiL_nil, phiL_at, tau, lentO, okIds, flatC, flatB, flatOs, flatO, flatPs, place, setAll_nil, setAll_cons, nodupB, renObj, closeIds, addNew, idsOf, idsObj, posOf, lenOk_0, lenOk_1, lenOk_2, lenOk_3, lenOk_4, lenOk_8, ↓reduceIte, Option.isSome_none, Option.isSome_some, Bool.or_true, Bool.true_or,  Nat.reduceEqDiff, Nat.reduceBEq, Nat.reduceSub, Nat.reduceLT, beq_self_eq_true, List.map, List.set, List.map_cons, List.map_nil, List.flatMap_cons, List.flatMap_nil, List.flatten_cons, List.flatten_nil, true_and, and_true, List.length_cons, List.length_nil, Nat.reduceAdd, Nat.reduceLeDiff, List.nil_append, List.cons_append, List.append_nil, Option.map, mapO, ren, kp, kpI, ent, nilG, Option.bind, List.range, List.range.loop, List.getElem?_cons_zero, List.getElem?_cons_succ, List.getElem?_nil, List.getD_cons_zero, List.getD_cons_succ, List.drop_zero, List.drop_succ_cons, List.drop_nil, List.take_zero, List.take_succ_cons, List.all_cons, List.all_nil, List.isEmpty_nil, List.isEmpty_cons, Bool.and_true, Bool.true_and, Bool.not_true, Bool.not_false, List.contains_nil, reduceCtorEq, List.contains_cons, Bool.or_false, Bool.false_or, eq_self, forall_const, false_implies, Bool.false_eq_true, Nat.le_refl, List.length_map, List.length_set, List.length_replicate, and_self, implies_true]
        refine ⟨by omega, by (first | omega | (simp only [lenOk, bytesOk, inI, IntKind.bits, List.length_append, Bs_len, List.length_cons, List.length_nil, List.length_map, List.length_take, List.length_drop, List.length_replicate]; omega)), by (first | omega | (simp only [lenOk, bytesOk, inI, IntKind.bits, List.length_append, Bs_len, List.length_cons, List.length_nil, List.length_map, List.length_take, List.length_drop, List.length_replicate]; omega)), ⟨by omega, by (first | omega | (simp only [lenOk, bytesOk, inI, IntKind.bits, List.length_append, Bs_len, List.length_cons, List.length_nil, List.length_map, List.length_take, List.length_drop, List.length_replicate]; omega))⟩, (cur / 10, o8 (48 + cur % 10) :: s), ⟨?_, by simp only; omega⟩, by simp only; omega, rfl⟩
        rw [decP_step (by omega), List.append_assoc] at ha
        exact ha
  · cases hs
end Go.Proofs.YtfabdnpeohpgnaaGreatDoor
namespace Go.Proofs.YtfabdnpeohpgnaaGreatDoor
set_option linter.all false
open Go.RowKit
open Go.Lib (index hasPrefix cut indexAny itoa)
def rgprnS : Spec := fun xs hp => match xs, hp with
  | [.agg [(20, .blob m), (1, .str u), (1, .int .i64 t), (1, .int .i64 z), (1, .sl ke es), (1, .sl kf fs), (1, .str d)]], [] =>
    some ⟨.str (bodyH ⟨unV m, u, t, z, es.map unEx, fs.map unS, d⟩), [], m = (unV m).map U ∧ es = (es.map unEx).map exV ∧ fs = (fs.map unS).map AV.str ∧ (ke = 2 ∨ es = []) ∧ (kf = 1 ∨ fs = []) ∧ sizeH ⟨unV m, u, t, z, es.map unEx, fs.map unS, d⟩⟩
  | _, _ => none
def phiRP : Phi := phiL [(21, [], rhexS), (22, [], itoaS), (23, [], rgvalueS)]
theorem phiRP_ok : PhiOk Tryz.prog phiRP := phi_cons rhex_ok (by kernel_rfl) (phi_cons rdec_ok (by kernel_rfl) (phi_cons rgvalue_ok (by kernel_rfl) phi_nil))
theorem phiRP_1 : phiRP 21 = some ([], rhexS) := rfl
theorem phiRP_2 : phiRP 22 = some ([], itoaS) := rfl
theorem phiRP_3 : phiRP 23 = some ([], rgvalueS) := rfl
def headH (m u : List UInt8) (t z : Int) : List UInt8 := hexL m ++ 10 :: (u ++ 10 :: (itoa t ++ 32 :: itoa z))
theorem body_shape (c : ChgL) : bodyH c = headH c.man c.user c.time c.zone ++ exsT c.extras ++ 10 :: (c.files.flatMap fileT) ++ 10 :: c.desc := by
  unfold bodyH dateT headH; simp
set_option maxHeartbeats 4000000 in
theorem rgprn_ok : FnOk Tryz.prog 10 rgprnS := by
  refine fn_slim2 Tryz.func10 s_rgprn phiRP_ok ?_
  intro xs hp r hs hp'
  unfold rgprnS at hs
  split at hs
  · rename_i m u t z ke es kf fs d
    injection hs with hs; subst hs
    obtain ⟨q1, q2, q3, q4, q5, z1, z2, z3, z4, z5, z6, z7, z8, z9, z10, z11⟩ := hp'
    generalize unV m = m at *
    subst q1
    generalize es.map unEx = es at *
    subst q2
    generalize fs.map unS = fs at *
    subst q3
    simp only at z1 z2 z3 z4 z5 z6 z7 z8 z9 z10 z11
    refine ⟨len_le (by kernel_rfl), ?_⟩
    have l1 := Lib.itoa_length_le t z10.1 z10.2
    have l2 := Lib.itoa_length_le z z11.1 z11.2
    have hh := hexL_length m
    have hH : (headH m u t z).length ≤ 2000000 := by unfold headH; simp only [List.length_append, List.length_cons]; omega
    have eH : hexL m ++ [10] ++ u ++ [10] ++ itoa t ++ [32] ++ itoa z = headH m u t z := by unfold headH; simp
    rw [body_shape]
    simp only
    simp only [c_rgprn, phiRP_1, phiRP_2, rhexS, itoaS, unV_U, hexI_eq, List.length_map, go_sem, Nat.reduceDiv, Nat.reduceMod, ↓reduceIte, Nat.reduceEqDiff, Nat.reduceBEq, Nat.reduceSub, Nat.reduceLT, Nat.reduceAdd, Nat.reduceLeDiff, reduceCtorEq, Int.reduceEq, Int.reduceNe, Int.reduceLT, Int.reduceLE, Int.reduceToNat]
    (repeat' apply And.intro)
    all_goals first | exact z1 | exact z10.1 | exact z10.2 | exact z11.1 | exact z11.2 | (first | omega | (simp only [lenOk, bytesOk, inI, IntKind.bits, List.length_append, Bs_len, List.length_cons, List.length_nil, List.length_map, List.length_take, List.length_drop, List.length_replicate]; omega)) | skip
    refine loop2P [] [1, 3, 4] [0] (fun i : Nat => ⟨[(1, .ref 0 0 0), (3, .str (headH m u t z ++ exsT (es.take i))), (4, .int .i64 (i : Int))], [.cells 26 [(20, .blob (m.map U)), (1, .str u), (1, .int .i64 t), (1, .int .i64 z), (1, .sl ke (es.map exV)), (1, .sl kf (fs.map AV.str)), (1, .str d)]]⟩)
      (fun i => i ≤ es.length) (fun i => es.length - i) 0 ?_ (Nat.zero_le _) ⟨rfl, by rfl⟩ (fun i hi R hR => ?_)
    · simp only [List.take_zero, exsT, List.append_nil, ← eH]
      rfl
    by_cases hil : i < es.length
    · have c1 : decide ((i : Int) < (es.length : Int)) = true := decide_eq_true (by omega)
      have hk : ke = 2 := q4.resolve_right (by intro h; have := congrArg List.length h; simp at this; rw [this] at hil; simp at hil)
      have hget := getD_map exV es ([], []) (AV.agg [(1, AV.str []), (1, AV.str [])]) hil
      have hga : es.getD i ([], []) = es[i] := by simp [List.getD_eq_getElem?_getD, List.getElem?_eq_getElem hil]
      obtain ⟨x1, x2⟩ := z5 es[i] (List.getElem_mem _)
      have htk := exsT_take es hil
      have hle := exsT_take_le es (es.length - (i + 1)) (i + 1) (by omega)
      subst hk
      generalize es[i] = x at *
      have htl := tol_len x.2
      rw [htk, List.length_append, List.length_append] at hle
      unfold exT at htk hle
      rw [List.length_append, List.length_cons] at hle
      by_cases h0 : i = 0
      · have d0 : decide ((i : Int) = 0) = true := decide_eq_true (by omega)
        rw [if_pos h0] at htk hle
        have e : headH m u t z ++ exsT (es.take i) ++ [32] ++ x.1 ++ [58] ++ tolL x.2 = headH m u t z ++ exsT (es.take (i + 1)) := by rw [htk]; simp
        simp only [b_rgprn_0, c1, d0, hget, hga, exV, phiRP_3, rgvalueS, Int.toNat_natCast, List.length_map, go_sem, Nat.reduceDiv, Nat.reduceMod, ↓reduceIte, Nat.reduceEqDiff, Nat.reduceBEq, Nat.reduceSub, Nat.reduceLT, Nat.reduceAdd, Nat.reduceLeDiff, reduceCtorEq, Int.reduceEq, Int.reduceNe, Int.reduceLT, Int.reduceLE, Int.reduceToNat]
        (repeat' apply And.intro)
        all_goals first | omega | (first | omega | (simp only [lenOk, bytesOk, inI, IntKind.bits, List.length_append, Bs_len, List.length_cons, List.length_nil, List.length_map, List.length_take, List.length_drop, List.length_replicate]; omega)) | skip
        rw [e]
        exact hR _ (i + 1) hil (by omega) rfl
      · have d0 : decide ((i : Int) = 0) = false := decide_eq_false (by omega)
        rw [if_neg h0] at htk hle
        have e : headH m u t z ++ exsT (es.take i) ++ [0] ++ x.1 ++ [58] ++ tolL x.2 = headH m u t z ++ exsT (es.take (i + 1)) := by rw [htk]; simp
        simp only [b_rgprn_0, c1, d0, hget, hga, exV, phiRP_3, rgvalueS, Int.toNat_natCast, List.length_map, go_sem, Nat.reduceDiv, Nat.reduceMod, ↓reduceIte, Nat.reduceEqDiff, Nat.reduceBEq, Nat.reduceSub, Nat.reduceLT, Nat.reduceAdd, Nat.reduceLeDiff, reduceCtorEq, Int.reduceEq, Int.reduceNe, Int.reduceLT, Int.reduceLE, Int.reduceToNat]
        (repeat' apply And.intro)
        all_goals first | omega | (first | omega | (simp only [lenOk, bytesOk, inI, IntKind.bits, List.length_append, Bs_len, List.length_cons, List.length_nil, List.length_map, List.length_take, List.length_drop, List.length_replicate]; omega)) | skip
        rw [e]
        exact hR _ (i + 1) hil (by omega) rfl
    have c1 : decide ((i : Int) < (es.length : Int)) = false := decide_eq_false (by omega)
    have hfl := files_len fs
    rw [List.take_of_length_le (by omega)]
    simp only [b_rgprn_0, t_rgprn_1, c1, List.length_map, go_sem, Nat.reduceDiv, Nat.reduceMod, ↓reduceIte, Nat.reduceEqDiff, Nat.reduceBEq, Nat.reduceSub, Nat.reduceLT, Nat.reduceAdd, Nat.reduceLeDiff, reduceCtorEq, Int.reduceEq, Int.reduceNe, Int.reduceLT, Int.reduceLE, Int.reduceToNat]
    clear hR R
    have hHl : (headH m u t z ++ exsT es).length ≤ 102000000 := by rw [List.length_append]; omega
    generalize headH m u t z ++ exsT es = H at *
    refine ⟨by (first | omega | (simp only [lenOk, bytesOk, inI, IntKind.bits, List.length_append, Bs_len, List.length_cons, List.length_nil, List.length_map, List.length_take, List.length_drop, List.length_replicate]; omega)), ?_⟩
    refine loop2P [] [1, 3, 5] [0] (fun i : Nat => ⟨[(1, .ref 0 0 0), (3, .str (H ++ 10 :: (fs.take i).flatMap fileT)), (5, .int .i64 (i : Int))], [.cells 26 [(20, .blob (m.map U)), (1, .str u), (1, .int .i64 t), (1, .int .i64 z), (1, .sl ke (es.map exV)), (1, .sl kf (fs.map AV.str)), (1, .str d)]]⟩)
      (fun i => i ≤ fs.length) (fun i => fs.length - i) 0 (by rfl) (Nat.zero_le _) ⟨rfl, by rfl⟩ (fun i hi R hR => ?_)
    by_cases hil : i < fs.length
    · have c1 : decide ((i : Int) < (fs.length : Int)) = true := decide_eq_true (by omega)
      have hk : kf = 1 := q5.resolve_right (by intro h; have := congrArg List.length h; simp at this; rw [this] at hil; simp at hil)
      have hget := getD_map AV.str fs [] (AV.str []) hil
      have hga : fs.getD i [] = fs[i] := by simp [List.getD_eq_getElem?_getD, List.getElem?_eq_getElem hil]
      have hle := flatMap_take_le fileT fs i
      have hx := z6 fs[i] (List.getElem_mem _)
      have e : H ++ 10 :: (fs.take i).flatMap fileT ++ fs[i] ++ [10] = H ++ 10 :: (fs.take (i + 1)).flatMap fileT := by
        rw [← flatMap_take fileT fs hil]; simp [fileT]
      subst hk
      simp only [b_rgprn_1, c1, hget, hga, Int.toNat_natCast, List.length_map, go_sem, Nat.reduceDiv, Nat.reduceMod, ↓reduceIte, Nat.reduceEqDiff, Nat.reduceBEq, Nat.reduceSub, Nat.reduceLT, Nat.reduceAdd, Nat.reduceLeDiff, reduceCtorEq, Int.reduceEq, Int.reduceNe, Int.reduceLT, Int.reduceLE, Int.reduceToNat]
      (repeat' apply And.intro)
      all_goals first | omega | (first | omega | (simp only [lenOk, bytesOk, inI, IntKind.bits, List.length_append, Bs_len, List.length_cons, List.length_nil, List.length_map, List.length_take, List.length_drop, List.length_replicate]; omega)) | skip
      rw [e]
      exact hR _ (i + 1) hil (by omega) rfl
    · have c1 : decide ((i : Int) < (fs.length : Int)) = false := decide_eq_false (by omega)
      have hle := flatMap_take_le fileT fs i
      have e : fs.take i = fs := List.take_of_length_le (by omega)
      rw [e] at hle ⊢
      simp only [b_rgprn_1, t_rgprn_0, r_rgprn, c1, List.length_map, go_sem, Nat.reduceDiv, Nat.reduceMod, ↓reduceIte, Nat.reduceEqDiff, Nat.reduceBEq, Nat.reduceSub, Nat.reduceLT, Nat.reduceAdd, Nat.reduceLeDiff, reduceCtorEq, Int.reduceEq, Int.reduceNe, Int.reduceLT, Int.reduceLE, Int.reduceToNat]
      (repeat' apply And.intro)
      all_goals first | omega | (first | omega | (simp only [lenOk, bytesOk, inI, IntKind.bits, List.length_append, Bs_len, List.length_cons, List.length_nil, List.length_map, List.length_take, List.length_drop, List.length_replicate]; omega)) | skip
      simp
  · cases hs
end Go.Proofs.YtfabdnpeohpgnaaGreatDoor
namespace Go.Proofs.YtfabdnpeohpgnaaGreatDoor
set_option linter.all false
open Go.RowKit
open Go.Lib (index hasPrefix cut indexAny itoa)
end Go.Proofs.YtfabdnpeohpgnaaGreatDoor
namespace Go.Proofs.YtfabdnpeohpgnaaGreatDoor
set_option linter.all false
open Go.RowKit
def sameH (c d : ChgL) : Bool := decide (c.man = d.man) && decide (c.user = d.user) && decide (c.time = d.time) && decide (c.zone = d.zone) && decide (c.desc = d.desc) && decide (c.extras = d.extras) && decide (c.files = d.files)
theorem sameH_iff {c d : ChgL} : sameH c d = true ↔ c = d := by
  cases c; cases d; simp [sameH]; constructor
  · rintro ⟨⟨⟨⟨⟨⟨rfl, rfl⟩, rfl⟩, rfl⟩, rfl⟩, rfl⟩, rfl⟩; simp
  · rintro ⟨rfl, rfl, rfl, rfl, rfl, rfl, rfl⟩; simp
theorem sameH_self (c : ChgL) : sameH c c = true := sameH_iff.2 rfl
def argS7 (m : List Value) (ke : Nat) (es : List AV) (kf : Nat) (fs : List AV) : Prop := m = (unV m).map U ∧ es = (es.map unEx).map exV ∧ fs = (fs.map unS).map AV.str ∧ (ke = 2 ∨ es = []) ∧ (kf = 1 ∨ fs = []) ∧ (unV m).length = 20 ∧ es.length ≤ 1000000 ∧ fs.length ≤ 1000000
def rgsameS : Spec := fun xs hp => match xs, hp with
  | [.agg [(20, .blob m), (1, .str u), (1, .int .i64 t), (1, .int .i64 z), (1, .sl ke es), (1, .sl kf fs), (1, .str d)], .agg [(20, .blob m2), (1, .str u2), (1, .int .i64 t2), (1, .int .i64 z2), (1, .sl ke2 es2), (1, .sl kf2 fs2), (1, .str d2)]], [] =>
    some ⟨.bool (sameH ⟨unV m, u, t, z, es.map unEx, fs.map unS, d⟩ ⟨unV m2, u2, t2, z2, es2.map unEx, fs2.map unS, d2⟩), [], argS7 m ke es kf fs ∧ argS7 m2 ke2 es2 kf2 fs2⟩
  | _, _ => none
theorem takeX_succ {α : Type} {l m : List α} {i : Nat} (h : l.take i = m.take i) (hi : i < l.length) (hj : i < m.length) (e : l[i] = m[i]) : l.take (i + 1) = m.take (i + 1) := by
  rw [List.take_add_one, List.take_add_one, h, List.getElem?_eq_getElem hi, List.getElem?_eq_getElem hj, e]
set_option maxHeartbeats 4000000 in
theorem rgsame_ok : FnOk Tryz.prog 11 rgsameS := by
  refine fn_slim2 Tryz.func11 s_rgsame (Φ := phiL []) phi_nil ?_
  intro xs hp r hs hp'
  unfold rgsameS at hs
  split at hs
  · injection hs with hs; subst hs
    rename_i m u t z ke es kf fs d m2 u2 t2 z2 ke2 es2 kf2 fs2 d2
    obtain ⟨⟨q1, q2, q3, q4, q5, q6, q7, q8⟩, w1, w2, w3, w4, w5, w6, w7, w8⟩ := hp'
    generalize unV m = m at *
    subst q1
    generalize es.map unEx = es at *
    subst q2
    generalize fs.map unS = fs at *
    subst q3
    generalize unV m2 = m2 at *
    subst w1
    generalize es2.map unEx = es2 at *
    subst w2
    generalize fs2.map unS = fs2 at *
    subst w3
    rw [List.length_map] at q7 q8 w7 w8
    refine ⟨len_le (by kernel_rfl), ?_⟩
    unfold sameH
    simp only
    cases h1 : decide (m = m2) with
    | false =>
      simp only [c_rgsame, h1, r_rgsame, unV_U, List.length_map, Bool.false_and, Bool.and_false, Bool.true_and, go_sem, Nat.reduceDiv, Nat.reduceMod, ↓reduceIte, Nat.reduceEqDiff, Nat.reduceBEq, Nat.reduceSub, Nat.reduceLT, Nat.reduceAdd, Nat.reduceLeDiff, reduceCtorEq, Int.reduceEq, Int.reduceNe, Int.reduceLT, Int.reduceLE, Int.reduceToNat]
      (repeat' apply And.intro); all_goals first | exact q6 | exact w6 | omega | rfl | skip
    | true =>
    cases h2 : decide (u = u2) with
    | false =>
      simp only [c_rgsame, h1, h2, r_rgsame, unV_U, List.length_map, Bool.false_and, Bool.and_false, Bool.true_and, go_sem, Nat.reduceDiv, Nat.reduceMod, ↓reduceIte, Nat.reduceEqDiff, Nat.reduceBEq, Nat.reduceSub, Nat.reduceLT, Nat.reduceAdd, Nat.reduceLeDiff, reduceCtorEq, Int.reduceEq, Int.reduceNe, Int.reduceLT, Int.reduceLE, Int.reduceToNat]
      (repeat' apply And.intro); all_goals first | exact q6 | exact w6 | omega | rfl | skip
    | true =>
    cases h3 : decide (t = t2) with
    | false =>
      simp only [c_rgsame, h1, h2, h3, r_rgsame, unV_U, List.length_map, Bool.false_and, Bool.and_false, Bool.true_and, go_sem, Nat.reduceDiv, Nat.reduceMod, ↓reduceIte, Nat.reduceEqDiff, Nat.reduceBEq, Nat.reduceSub, Nat.reduceLT, Nat.reduceAdd, Nat.reduceLeDiff, reduceCtorEq, Int.reduceEq, Int.reduceNe, Int.reduceLT, Int.reduceLE, Int.reduceToNat]
      (repeat' apply And.intro); all_goals first | exact q6 | exact w6 | omega | rfl | skip
    | true =>
    cases h4 : decide (z = z2) with
    | false =>
      simp only [c_rgsame, h1, h2, h3, h4, r_rgsame, unV_U, List.length_map, Bool.false_and, Bool.and_false, Bool.true_and, go_sem, Nat.reduceDiv, Nat.reduceMod, ↓reduceIte, Nat.reduceEqDiff, Nat.reduceBEq, Nat.reduceSub, Nat.reduceLT, Nat.reduceAdd, Nat.reduceLeDiff, reduceCtorEq, Int.reduceEq, Int.reduceNe, Int.reduceLT, Int.reduceLE, Int.reduceToNat]
      (repeat' apply And.intro); all_goals first | exact q6 | exact w6 | omega | rfl | skip
    | true =>
    cases h5 : decide (d = d2) with
    | false =>
      simp only [c_rgsame, h1, h2, h3, h4, h5, r_rgsame, unV_U, List.length_map, Bool.false_and, Bool.and_false, Bool.true_and, go_sem, Nat.reduceDiv, Nat.reduceMod, ↓reduceIte, Nat.reduceEqDiff, Nat.reduceBEq, Nat.reduceSub, Nat.reduceLT, Nat.reduceAdd, Nat.reduceLeDiff, reduceCtorEq, Int.reduceEq, Int.reduceNe, Int.reduceLT, Int.reduceLE, Int.reduceToNat]
      (repeat' apply And.intro); all_goals first | exact q6 | exact w6 | omega | rfl | skip
    | true =>
    by_cases h6 : es.length = es2.length
    rotate_left
    · have d6 : decide ((es.length : Int) = (es2.length : Int)) = false := decide_eq_false (by omega)
      have e : decide (es = es2) = false := decide_eq_false (by rintro rfl; exact h6 rfl)
      simp only [c_rgsame, h1, h2, h3, h4, h5, d6, e, r_rgsame, unV_U, List.length_map, Bool.false_and, Bool.and_false, Bool.true_and, go_sem, Nat.reduceDiv, Nat.reduceMod, ↓reduceIte, Nat.reduceEqDiff, Nat.reduceBEq, Nat.reduceSub, Nat.reduceLT, Nat.reduceAdd, Nat.reduceLeDiff, reduceCtorEq, Int.reduceEq, Int.reduceNe, Int.reduceLT, Int.reduceLE, Int.reduceToNat]
      (repeat' apply And.intro); all_goals first | exact q6 | exact w6 | omega | rfl | skip
    have d6 : decide ((es.length : Int) = (es2.length : Int)) = true := decide_eq_true (by omega)
    by_cases h7 : fs.length = fs2.length
    rotate_left
    · have d7 : decide ((fs.length : Int) = (fs2.length : Int)) = false := decide_eq_false (by omega)
      have e : decide (fs = fs2) = false := decide_eq_false (by rintro rfl; exact h7 rfl)
      simp only [c_rgsame, h1, h2, h3, h4, h5, d6, d7, e, r_rgsame, unV_U, List.length_map, Bool.false_and, Bool.and_false, Bool.true_and, go_sem, Nat.reduceDiv, Nat.reduceMod, ↓reduceIte, Nat.reduceEqDiff, Nat.reduceBEq, Nat.reduceSub, Nat.reduceLT, Nat.reduceAdd, Nat.reduceLeDiff, reduceCtorEq, Int.reduceEq, Int.reduceNe, Int.reduceLT, Int.reduceLE, Int.reduceToNat]
      (repeat' apply And.intro); all_goals first | exact q6 | exact w6 | omega | rfl | skip
    have d7 : decide ((fs.length : Int) = (fs2.length : Int)) = true := decide_eq_true (by omega)
    simp only [c_rgsame, h1, h2, h3, h4, h5, d6, d7, unV_U, Bool.true_and, List.length_map, go_sem, Nat.reduceDiv, Nat.reduceMod, ↓reduceIte, Nat.reduceEqDiff, Nat.reduceBEq, Nat.reduceSub, Nat.reduceLT, Nat.reduceAdd, Nat.reduceLeDiff, reduceCtorEq, Int.reduceEq, Int.reduceNe, Int.reduceLT, Int.reduceLE, Int.reduceToNat]
    refine ⟨⟨q6, w6⟩, ?_⟩
    refine loop2P [] [2, 3, 5] [0, 1] (fun i : Nat => ⟨[(2, .ref 0 0 0), (3, .ref 1 0 0), (5, .int .i64 (i : Int))], [.cells 26 [(20, .blob (m.map U)), (1, .str u), (1, .int .i64 t), (1, .int .i64 z), (1, .sl ke (es.map exV)), (1, .sl kf (fs.map AV.str)), (1, .str d)], .cells 26 [(20, .blob (m2.map U)), (1, .str u2), (1, .int .i64 t2), (1, .int .i64 z2), (1, .sl ke2 (es2.map exV)), (1, .sl kf2 (fs2.map AV.str)), (1, .str d2)]]⟩)
      (fun i => i ≤ es.length ∧ es.take i = es2.take i) (fun i => es.length - i) 0 rfl ⟨Nat.zero_le _, by simp⟩ ⟨rfl, by rfl⟩ (fun j hj R hR => ?_)
    obtain ⟨j1, j2⟩ := hj
    by_cases hjl : j < es.length
    · have c1 : decide ((j : Int) < (es.length : Int)) = true := decide_eq_true (by omega)
      have hk : ke = 2 := q4.resolve_right (by intro h; have := congrArg List.length h; simp at this; rw [this] at hjl; simp at hjl)
      have hk2 : ke2 = 2 := w4.resolve_right (by intro h; have := congrArg List.length h; simp at this; rw [this] at h6; simp at h6; rw [h6] at hjl; simp at hjl)
      subst hk hk2
      have hget := getD_map exV es ([], []) (.agg [(1, (.str [])), (1, (.str []))]) hjl
      have hga : es.getD j ([], []) = es[j] := by simp [List.getD_eq_getElem?_getD, List.getElem?_eq_getElem hjl]
      have hget2 := getD_map exV es2 ([], []) (.agg [(1, (.str [])), (1, (.str []))]) (show j < es2.length by omega)
      have hga2 : es2.getD j ([], []) = es2[j] := by simp [List.getD_eq_getElem?_getD, List.getElem?_eq_getElem (show j < es2.length by omega)]
      have hpe : (decide (es[j].1 = es2[j].1) && decide (es[j].2 = es2[j].2)) = decide (es[j] = es2[j]) := by
        rw [Bool.eq_iff_iff]; simp [Prod.ext_iff]
      cases hx : decide (es[j] = es2[j]) with
      | false =>
        have e : decide (es = es2) = false := decide_eq_false (by rintro rfl; exact (of_decide_eq_false hx) rfl)
        rw [e]
        simp only [b_rgsame_0, r_rgsame, c1, hget, hga, hget2, hga2, exV, hpe, hx, Int.toNat_natCast, List.length_map, go_sem, Nat.reduceDiv, Nat.reduceMod, ↓reduceIte, Nat.reduceEqDiff, Nat.reduceBEq, Nat.reduceSub, Nat.reduceLT, Nat.reduceAdd, Nat.reduceLeDiff, reduceCtorEq, Int.reduceEq, Int.reduceNe, Int.reduceLT, Int.reduceLE, Int.reduceToNat]
        repeat' apply And.intro
        all_goals first | omega | rfl | trivial | skip
      | true =>
        simp only [b_rgsame_0, r_rgsame, c1, hget, hga, hget2, hga2, exV, hpe, hx, Int.toNat_natCast, List.length_map, go_sem, Nat.reduceDiv, Nat.reduceMod, ↓reduceIte, Nat.reduceEqDiff, Nat.reduceBEq, Nat.reduceSub, Nat.reduceLT, Nat.reduceAdd, Nat.reduceLeDiff, reduceCtorEq, Int.reduceEq, Int.reduceNe, Int.reduceLT, Int.reduceLE, Int.reduceToNat]
        refine ⟨⟨by omega, by omega⟩, ⟨by omega, by omega⟩, ⟨by omega, by omega⟩, hR _ (j + 1) ⟨by omega, takeX_succ j2 hjl (by omega) (of_decide_eq_true hx)⟩ (by omega) rfl⟩
    have c1 : decide ((j : Int) < (es.length : Int)) = false := decide_eq_false (by omega)
    have e1 : es = es2 := by
      rw [List.take_of_length_le (by omega), List.take_of_length_le (by omega)] at j2; exact j2
    have e : decide (es = es2) = true := decide_eq_true e1
    rw [e]
    simp only [b_rgsame_0, t_rgsame_1, c1, Bool.true_and, List.length_map, go_sem, Nat.reduceDiv, Nat.reduceMod, ↓reduceIte, Nat.reduceEqDiff, Nat.reduceBEq, Nat.reduceSub, Nat.reduceLT, Nat.reduceAdd, Nat.reduceLeDiff, reduceCtorEq, Int.reduceEq, Int.reduceNe, Int.reduceLT, Int.reduceLE, Int.reduceToNat]
    clear hR R
    refine loop2P [] [2, 3, 6] [0, 1] (fun i : Nat => ⟨[(2, .ref 0 0 0), (3, .ref 1 0 0), (6, .int .i64 (i : Int))], [.cells 26 [(20, .blob (m.map U)), (1, .str u), (1, .int .i64 t), (1, .int .i64 z), (1, .sl ke (es.map exV)), (1, .sl kf (fs.map AV.str)), (1, .str d)], .cells 26 [(20, .blob (m2.map U)), (1, .str u2), (1, .int .i64 t2), (1, .int .i64 z2), (1, .sl ke2 (es2.map exV)), (1, .sl kf2 (fs2.map AV.str)), (1, .str d2)]]⟩)
      (fun i => i ≤ fs.length ∧ fs.take i = fs2.take i) (fun i => fs.length - i) 0 rfl ⟨Nat.zero_le _, by simp⟩ ⟨rfl, by rfl⟩ (fun i hi R hR => ?_)
    obtain ⟨i1, i2⟩ := hi
    by_cases hil : i < fs.length
    · have c1 : decide ((i : Int) < (fs.length : Int)) = true := decide_eq_true (by omega)
      have hk : kf = 1 := q5.resolve_right (by intro h; have := congrArg List.length h; simp at this; rw [this] at hil; simp at hil)
      have hk2 : kf2 = 1 := w5.resolve_right (by intro h; have := congrArg List.length h; simp at this; rw [this] at h7; simp at h7; rw [h7] at hil; simp at hil)
      subst hk hk2
      have hget := getD_map AV.str fs [] (AV.str []) hil
      have hga : fs.getD i [] = fs[i] := by simp [List.getD_eq_getElem?_getD, List.getElem?_eq_getElem hil]
      have hget2 := getD_map AV.str fs2 [] (AV.str []) (show i < fs2.length by omega)
      have hga2 : fs2.getD i [] = fs2[i] := by simp [List.getD_eq_getElem?_getD, List.getElem?_eq_getElem (show i < fs2.length by omega)]
      cases hx : decide (fs[i] = fs2[i]) with
      | false =>
        have e : decide (fs = fs2) = false := decide_eq_false (by rintro rfl; exact (of_decide_eq_false hx) rfl)
        rw [e]
        simp only [b_rgsame_1, r_rgsame, c1, hget, hga, hget2, hga2, hx, Int.toNat_natCast, List.length_map, go_sem, Nat.reduceDiv, Nat.reduceMod, ↓reduceIte, Nat.reduceEqDiff, Nat.reduceBEq, Nat.reduceSub, Nat.reduceLT, Nat.reduceAdd, Nat.reduceLeDiff, reduceCtorEq, Int.reduceEq, Int.reduceNe, Int.reduceLT, Int.reduceLE, Int.reduceToNat]
        repeat' apply And.intro
        all_goals first | omega | rfl | trivial | skip
      | true =>
        simp only [b_rgsame_1, r_rgsame, c1, hget, hga, hget2, hga2, hx, Int.toNat_natCast, List.length_map, go_sem, Nat.reduceDiv, Nat.reduceMod, ↓reduceIte, Nat.reduceEqDiff, Nat.reduceBEq, Nat.reduceSub, Nat.reduceLT, Nat.reduceAdd, Nat.reduceLeDiff, reduceCtorEq, Int.reduceEq, Int.reduceNe, Int.reduceLT, Int.reduceLE, Int.reduceToNat]
        refine ⟨⟨by omega, by omega⟩, ⟨by omega, by omega⟩, ⟨by omega, by omega⟩, hR _ (i + 1) ⟨by omega, takeX_succ i2 hil (by omega) (of_decide_eq_true hx)⟩ (by omega) rfl⟩
    · have c1 : decide ((i : Int) < (fs.length : Int)) = false := decide_eq_false (by omega)
      have e1 : fs = fs2 := by
        rw [List.take_of_length_le (by omega), List.take_of_length_le (by omega)] at i2; exact i2
      have e : decide (fs = fs2) = true := decide_eq_true e1
      rw [e]
      simp only [b_rgsame_1, t_rgsame_0, r_rgsame, c1, List.length_map, go_sem, Nat.reduceDiv, Nat.reduceMod, ↓reduceIte, Nat.reduceEqDiff, Nat.reduceBEq, Nat.reduceSub, Nat.reduceLT, Nat.reduceAdd, Nat.reduceLeDiff, reduceCtorEq, Int.reduceEq, Int.reduceNe, Int.reduceLT, Int.reduceLE, Int.reduceToNat]
  · cases hs
end Go.Proofs.YtfabdnpeohpgnaaGreatDoor
namespace Go.Proofs.YtfabdnpeohpgnaaGreatDoor
set_option linter.all false
open Go.RowKit
open Go.Lib (index hasPrefix trimPrefix cut indexAny itoa)
def gparR (c : ChgL) (ok : Bool) (pr : Prop) : Option Ret :=
  if ok = true then some ⟨.tup [.agg [(20, .blob (c.man.map U)), (1, .str c.user), (1, .int .i64 c.time), (1, .int .i64 c.zone), (1, .own 0 c.extras.length), (1, .own 1 c.files.length), (1, .str c.desc)], .int .i64 0], [.row 48 2 c.extras.length (c.extras.map exV), .row 9 1 c.files.length (c.files.map AV.str)], pr⟩
  else some ⟨.tup [.agg [(20, .blob (List.replicate 20 (.int .u8 0))), (1, .str []), (1, .int .i64 0), (1, .int .i64 0), (1, .con (.slice none 0 0)), (1, .con (.slice none 0 0)), (1, .str [])], .int .i64 4], [], pr⟩
noncomputable def gparS : Spec := fun xs hp => match xs, hp with
  | [.sl 1 bs], [] => gparR (chgC (unB bs)) (chgB (unB bs)) (bs = Bs (unB bs) ∧ bs.length ≤ 1000000)
  | _, _ => none
theorem gparR_pre {c : ChgL} {ok : Bool} {pr : Prop} {r : Ret} (h : gparR c ok pr = some r) (hr : r.pre) : pr := by
  unfold gparR at h
  split at h <;> (injection h with h; subst h; exact hr)
noncomputable def phiGR2 : Phi := phiL [(25, [], glineS), (24, [], parseS), (26, [], cutS), (27, [], gnumS), (28, [], gexsS), (14, [], grightS)]
theorem phiGR2_ok : PhiOk Tryz.prog phiGR2 := phi_cons gline_ok (by kernel_rfl) (phi_cons parse_ok (by kernel_rfl) (phi_cons cut_ok (by kernel_rfl) (phi_cons gnum_ok (by kernel_rfl) (phi_cons gexs_ok (by kernel_rfl) (phi_cons gright_ok (by kernel_rfl) phi_nil)))))
theorem phiGR2_1 : phiGR2 25 = some ([], glineS) := rfl
theorem phiGR2_2 : phiGR2 24 = some ([], parseS) := rfl
theorem phiGR2_3 : phiGR2 26 = some ([], cutS) := rfl
theorem phiGR2_4 : phiGR2 27 = some ([], gnumS) := rfl
theorem phiGR2_5 : phiGR2 28 = some ([], gexsS) := rfl
theorem phiGR2_6 : phiGR2 14 = some ([], grightS) := rfl
def gst (m u : List UInt8) (t z e : Int) (es : List ExL) (x : List UInt8 × Bool × List (List UInt8)) : St :=
  ⟨[(2, .ref 0 0 0), (3, .int .i64 0), (4, .ref 1 0 0), (6, .int .i64 e), (7, .ref 2 0 0)],
    [.cells 30 [(20, .blob (List.replicate 20 (.int .u8 0))), (1, .str []), (1, .int .i64 0), (1, .int .i64 0), (1, .con (.slice none 0 0)), (1, .con (.slice none 0 0)), (1, .str [])],
      .cells 60 [(1, .str x.1), (1, .bool x.2.1)],
      .cells 30 [(20, .blob (m.map U)), (1, .str u), (1, .int .i64 t), (1, .int .i64 z), (1, .own 3 es.length), (1, .own 4 x.2.2.length), (1, .str [])],
      .row 48 2 es.length (es.map exV), .row 9 1 x.2.2.length (x.2.2.map AV.str)]⟩
set_option maxHeartbeats 4000000 in
theorem gpar_loop {m u : List UInt8} {t z e : Int} {es : List ExL} {s0 : List UInt8} {b0 : Bool} {s2 : S2} {nils : List (Nat × TypeId × Nat)} {ids : List Nat} {r : Ret} {pr : Prop} (hn : nodupB ids = true) (hl5 : ids.length = 5) (hk : ent nils [2, 3, 4, 6, 7] ids (toS s2) = some (gst m u t z e es (s0, b0, [])))
    (p1 : s0.length ≤ 1000000) (p2 : u.length ≤ 1000000) (p3 : es.length ≤ 1000000) (p4 : inI t) (p5 : inI z) (p6 : m.length = 20) (p7 : ∀ x ∈ es, x.1.length ≤ 1000000)
    (hr : r = (gparR ⟨m, u, t, z, es, (filesG (s0.length + 1) s0 b0 []).2.2, (filesG (s0.length + 1) s0 b0 []).1⟩ (decide (e = 0) && !(filesG (s0.length + 1) s0 b0 []).2.1 && rightH ⟨m, u, t, z, es, (filesG (s0.length + 1) s0 b0 []).2.2, (filesG (s0.length + 1) s0 b0 []).1⟩) pr).getD ⟨.tup [], [], True⟩) :
    loopQ2 0 (awp2 phiGR2 0 b_gpar_0) (inQ2 0 (thenQ2 (awp2 phiGR2 0 t_gpar_0 (retQ2 r_gpar 0 r)) (retQ2 r_gpar 0 r))) s2 := by
  refine loop2P nils [2, 3, 4, 6, 7] ids (gst m u t z e es) (fun x => (∃ f, x.1.length < f ∧ filesG f x.1 x.2.1 x.2.2 = filesG (s0.length + 1) s0 b0 []) ∧ x.1.length ≤ 1000000 ∧ x.2.2.length + x.1.length ≤ 1000000 ∧ (∀ g ∈ x.2.2, g.length ≤ 1000000)) (fun x => x.1.length) (s0, b0, []) hk ⟨⟨_, Nat.lt_succ_self _, rfl⟩, p1, by simpa using p1, by simp⟩ ⟨hn, by rfl⟩ (fun x hx R hR => ?_)
  obtain ⟨s, bd, acc⟩ := x
  obtain ⟨⟨f, f1, f2⟩, g1, g2, g3⟩ := hx
  simp only at f1 f2 g1 g2 g3
  cases bd with
  | true =>
    rw [filesG_true] at f2
    rw [← f2] at hr
    simp only [gst, b_gpar_0, go_sem, Nat.reduceDiv, Nat.reduceMod, ↓reduceIte, Nat.reduceEqDiff, Nat.reduceBEq, Nat.reduceSub, Nat.reduceLT, Nat.reduceAdd, Nat.reduceLeDiff, reduceCtorEq, Int.reduceEq, Int.reduceNe, Int.reduceLT, Int.reduceLE, Int.reduceToNat]
    cases he : decide (e = 0) with
    | false =>
      simp only [t_gpar_0, r_gpar, he, phiGR2_6, grightS, go_sem, Nat.reduceDiv, Nat.reduceMod, ↓reduceIte, Nat.reduceEqDiff, Nat.reduceBEq, Nat.reduceSub, Nat.reduceLT, Nat.reduceAdd, Nat.reduceLeDiff, reduceCtorEq, Int.reduceEq, Int.reduceNe, Int.reduceLT, Int.reduceLE, Int.reduceToNat]
      subst hr; rw [he]; exact ⟨rfl, rfl⟩
    | true =>
      simp only [t_gpar_0, r_gpar, he, phiGR2_6, grightS, go_sem, Nat.reduceDiv, Nat.reduceMod, ↓reduceIte, Nat.reduceEqDiff, Nat.reduceBEq, Nat.reduceSub, Nat.reduceLT, Nat.reduceAdd, Nat.reduceLeDiff, reduceCtorEq, Int.reduceEq, Int.reduceNe, Int.reduceLT, Int.reduceLE, Int.reduceToNat]
      subst hr; rw [he]; exact ⟨rfl, rfl⟩
  | false =>
    cases h1 : decide ((cut s [10]).1 = []) with
    | true =>
      have h1' := of_decide_eq_true h1
      have hs0 : filesG f s false acc = ((cut s [10]).2.1, !(cut s [10]).2.2, acc) := by
        obtain ⟨k, rfl⟩ : ∃ k, f = k + 1 := ⟨f - 1, by omega⟩
        rw [filesG, if_neg (by simp), if_pos h1']
      rw [← f2, hs0] at hr
      simp only at hr
      have hcl := cutl1' s [10]
      simp only [gst, b_gpar_0, h1, phiGR2_1, glineS, go_sem, Nat.reduceDiv, Nat.reduceMod, ↓reduceIte, Nat.reduceEqDiff, Nat.reduceBEq, Nat.reduceSub, Nat.reduceLT, Nat.reduceAdd, Nat.reduceLeDiff, reduceCtorEq, Int.reduceEq, Int.reduceNe, Int.reduceLT, Int.reduceLE, Int.reduceToNat]
      refine ⟨by omega, ?_⟩
      cases he : decide (e = 0) with
      | false =>
        simp only [t_gpar_0, r_gpar, he, phiGR2_6, grightS, go_sem, Nat.reduceDiv, Nat.reduceMod, ↓reduceIte, Nat.reduceEqDiff, Nat.reduceBEq, Nat.reduceSub, Nat.reduceLT, Nat.reduceAdd, Nat.reduceLeDiff, reduceCtorEq, Int.reduceEq, Int.reduceNe, Int.reduceLT, Int.reduceLE, Int.reduceToNat]
        subst hr; rw [he]; exact ⟨rfl, rfl⟩
      | true =>
        cases h2 : (cut s [10]).2.2 with
        | false =>
          simp only [t_gpar_0, r_gpar, he, phiGR2_6, grightS, go_sem, Nat.reduceDiv, Nat.reduceMod, ↓reduceIte, Nat.reduceEqDiff, Nat.reduceBEq, Nat.reduceSub, Nat.reduceLT, Nat.reduceAdd, Nat.reduceLeDiff, reduceCtorEq, Int.reduceEq, Int.reduceNe, Int.reduceLT, Int.reduceLE, Int.reduceToNat]
          subst hr; rw [he, h2]; exact ⟨rfl, rfl⟩
        | true =>
          cases hR : rightH ⟨m, u, t, z, es, acc, (cut s [10]).2.1⟩ with
          | false =>
            simp only [t_gpar_0, r_gpar, he, hR, phiGR2_6, grightS, unV_U, unEx_map, unS_map, List.length_map, go_sem, Nat.reduceDiv, Nat.reduceMod, ↓reduceIte, Nat.reduceEqDiff, Nat.reduceBEq, Nat.reduceSub, Nat.reduceLT, Nat.reduceAdd, Nat.reduceLeDiff, reduceCtorEq, Int.reduceEq, Int.reduceNe, Int.reduceLT, Int.reduceLE, Int.reduceToNat]
            subst hr; rw [he, h2, hR]
            exact ⟨⟨Or.inl trivial, Or.inl trivial, p3, by omega, fun x hx => by have := p7 x hx; omega, fun f hf => by have := g3 f hf; omega, p2⟩, rfl, rfl⟩
          | true =>
            simp only [t_gpar_0, r_gpar, he, hR, phiGR2_6, grightS, unV_U, unEx_map, unS_map, List.length_map, go_sem, Nat.reduceDiv, Nat.reduceMod, ↓reduceIte, Nat.reduceEqDiff, Nat.reduceBEq, Nat.reduceSub, Nat.reduceLT, Nat.reduceAdd, Nat.reduceLeDiff, reduceCtorEq, Int.reduceEq, Int.reduceNe, Int.reduceLT, Int.reduceLE, Int.reduceToNat]
            subst hr; rw [he, h2, hR]
            exact ⟨⟨Or.inl trivial, Or.inl trivial, p3, by omega, fun x hx => by have := p7 x hx; omega, fun f hf => by have := g3 f hf; omega, p2⟩, rfl, rfl⟩
    | false =>
      have h1' := of_decide_eq_false h1
      have hs0 : filesG f s false acc = filesG (f - 1) (cut s [10]).2.1 (!(cut s [10]).2.2) (acc ++ [(cut s [10]).1]) := by
        obtain ⟨k, rfl⟩ : ∃ k, f = k + 1 := ⟨f - 1, by omega⟩
        rw [filesG, if_neg (by simp), if_neg h1']; rfl
      have hlt : (cut s [10]).2.1.length + (cut s [10]).1.length ≤ s.length ∧ (cut s [10]).2.1.length < s.length := by
        cases h2 : (cut s [10]).2.2 with
        | true =>
          have e := congrArg List.length (cut1_t h2)
          simp only [List.length_append, List.length_cons] at e
          omega
        | false =>
          obtain ⟨k1, k2⟩ := cut_f h2
          rw [k1] at h1'
          have : 0 < s.length := List.length_pos_iff.2 h1'
          rw [k1, k2]; simp only [List.length_nil]; omega
      have hal : (acc ++ [(cut s [10]).1]).length = acc.length + 1 := by simp
      simp only [gst, b_gpar_0, h1, phiGR2_1, glineS, go_sem, Nat.reduceDiv, Nat.reduceMod, ↓reduceIte, Nat.reduceEqDiff, Nat.reduceBEq, Nat.reduceSub, Nat.reduceLT, Nat.reduceAdd, Nat.reduceLeDiff, reduceCtorEq, Int.reduceEq, Int.reduceNe, Int.reduceLT, Int.reduceLE, Int.reduceToNat]
      refine ⟨by omega, ⟨by (first | omega | (simp only [lenOk, bytesOk, inI, IntKind.bits, List.length_append, Bs_len, List.length_cons, List.length_nil, List.length_map, List.length_take, List.length_drop, List.length_replicate]; omega)), by (first | omega | (simp only [lenOk, bytesOk, inI, IntKind.bits, List.length_append, Bs_len, List.length_cons, List.length_nil, List.length_map, List.length_take, List.length_drop, List.length_replicate]; omega))⟩, hR _ ((cut s [10]).2.1, !(cut s [10]).2.2, acc ++ [(cut s [10]).1]) ⟨⟨f - 1, by simp only; omega, by rw [← f2, hs0]⟩, by simp only; omega, by simp only [hal]; omega, fun g hg => ?_⟩ hlt.2 ?_⟩
      · rcases List.mem_append.1 hg with hg | hg
        · exact g3 g hg
        · rw [List.mem_singleton.1 hg]; omega
      · simp only [gst, hal, hl5, List.map_append, List.map_cons, List.map_nil]
        rfl
end Go.Proofs.YtfabdnpeohpgnaaGreatDoor
