import Derived.Test.YtlkaaoekbmegkaaGreatDoorQT2h
import Derived.Test.YtlkaaoekbmegkaaGreatDoorQFNRight
import Derived.Test.YtlkaaoekbmegkaaGreatDoorChecked
import Derived.Test.YtlkaaoekbmegkaaGreatDoorQAMS
namespace Go.Proofs.YtlkaaoekbmegkaaGreatDoor
set_option linter.all false
open Go.RowKit
def goodP (l : List UInt8) : Bool := decide (l.length = 40) && (List.range 20).all fun i => decide (okP l i)
def rOut (l : List UInt8) : List UInt8 := if goodP l = true then (List.range 20).map (fun j => UInt8.ofNat (valP l j)) else List.replicate 20 0
theorem valP_lt (l : List UInt8) (j : Nat) : valP l j < 256 := by
  have b1 := dv_lt (l.getD (2 * j) 0)
  have b2 := dv_lt (l.getD (2 * j + 1) 0)
  unfold valP; omega
theorem rOut_U (l : List UInt8) : (rOut l).map U = if goodP l = true then idV l 20 else List.replicate 20 (.int .u8 0) := by
  unfold rOut
  split
  · unfold idV
    rw [List.map_map, Nat.sub_self, List.replicate_zero, List.append_nil]
    refine List.map_congr_left fun j _ => ?_
    have := valP_lt l j
    show Value.int .u8 ((UInt8.ofNat (valP l j)).toNat : Int) = _
    rw [UInt8.toNat_ofNat', Nat.mod_eq_of_lt this]
  · rfl
def rparseS : Spec := fun xs hp => match xs, hp with
  | [.str l], [] => some ⟨.tup [.blob ((rOut l).map U), .bool (goodP l)], [], l.length ≤ 1000000000⟩
  | _, _ => none
theorem idW_zero (l : List UInt8) (i : Nat) (h : i < 20) : idW l i 0 = idV l i := by
  unfold idW idV
  rw [if_neg (by omega), show 20 - i = (19 - i) + 1 by omega, List.replicate_succ]
  simp
def stQ (l : List UInt8) (i : Nat) : St := ⟨[(0, .str l), (2, .ref 0 0 0), (3, .bool false), (4, .ref 1 0 0), (5, .int .i64 (i : Int))], [.cells 22 [(20, .blob (List.replicate 20 (.int .u8 0)))], .cells 22 [(20, .blob (idV l i))]]⟩
theorem rprs_round (l : List UInt8) (i : Nat) (K : St → Prop) (R : Ret) (hl : l.length = 40) (hi : i < 20) (hR : ¬ okP l i → R = ⟨.tup [.blob (List.replicate 20 (.int .u8 0)), .bool false], [], R.pre⟩)
    (hK : okP l i → ∀ s', kp [0, 2, 3, 4, 5] 2 s' = some (stQ l (i + 1)) → K s') : awp phiD 0 b_rprs_1 (thenQ K (inQ 0 (thenQ (awp phiD 0 t_rprs_2 (retQ r_rprs 0 R)) (retQ r_rprs 0 R)))) (stQ l i) := by
  generalize hQ2 : thenQ (awp phiD 0 t_rprs_2 (retQ r_rprs 0 R)) (retQ r_rprs 0 R) = Q2
  have hret : ∀ s, Q2 .ret s = finP 0 R s (aret s r_rprs) := by intro s; subst hQ2; rfl
  simp only [b_rprs_1, stQ, awp_scope, noG_n, noG_r, noG_x, awp_skip, awp_reg, awp_draw, awp_seq, awp_cond, awp_block, awp_loop, awp_exit, awp_ret, arun_nil, arun_op, arun_gt, arun_gf, arunD_nil, arunD_op, arunD_gt, arunD_gf, aq_some, isB_t, isB_u, isB_f, isB_g, isB_p, isU_t, isU_b, ifB_t, ifB_f, thenQ_n, thenQ_x, thenQ_r, inQ_n, inQ_r, inQ_x, retQ_n, retQ_r, exD, AOp.isH, keepN, preB, avalP, pureR, astep, stV, stN, stE, stC, aval, anew, aElems, frzS, frzH, aeff, slots, aret, ares, aress, AV.isTup, eqFs, aEqS, ofC_i, ofC_b, ofC_s, ofC_U, getD_mapU, getD_Bs, Bs_len, Int.toNat_natCast, opd, pt, tk, subp, rdP, Rt.size, Rt.isAgg, Rt.zv, aBin, aInt, aStr, arI, aUn, aToInt, aToStr, aIdxS, zv, aIdxA, aIa, aIaA, aFa, aLd, aFld, pparts, aLo, aHi, cutL, aSlS, aSl, aExt, aNck, aNilc, AV.isStr, aLen, AV.one, AV.multi, pureB, szOk, psz, drp, spl, aEqB, aEqA, aMm, aMkfn, aMkif, aBuild, toV, aBuildA, wrP, unparts, view, nilS, St.ev, lk, St.put, St.pin, St.pinV, acall0, acall1, acall2, acall3, bor, bor0, bor1, phiL_nil, phiL_at, tau, lentO, okIds, flatC, flatB, flatOs, flatO, flatPs, place, setAll_nil, setAll_cons, nodupB, renObj, closeIds, addNew, idsOf, idsObj, posOf, lenOk_0, lenOk_1, lenOk_2, lenOk_3, lenOk_4, lenOk_8, ↓reduceIte, Option.isSome_none, Option.isSome_some, Bool.or_true, Bool.true_or,  Nat.reduceEqDiff, Nat.reduceBEq, Nat.reduceSub, Nat.reduceLT, beq_self_eq_true, List.map, List.set, List.map_cons, List.map_nil, List.flatMap_cons, List.flatMap_nil, List.flatten_cons, List.flatten_nil, true_and, and_true, List.length_cons, List.length_nil, Nat.reduceAdd, Nat.reduceLeDiff, List.nil_append, List.cons_append, List.append_nil, Option.map, mapO, ren, kp, kpI, ent, nilG, Option.bind, List.range, List.range.loop, List.getElem?_cons_zero, List.getElem?_cons_succ, List.getElem?_nil, List.getD_cons_zero, List.getD_cons_succ, List.drop_zero, List.drop_succ_cons, List.drop_nil, List.take_zero, List.take_succ_cons, List.all_cons, List.all_nil, List.isEmpty_nil, List.isEmpty_cons, Bool.and_true, Bool.true_and, Bool.not_true, Bool.not_false, List.contains_nil, reduceCtorEq, List.contains_cons, Bool.or_false, Bool.false_or, eq_self, forall_const, false_implies, Bool.false_eq_true, Nat.le_refl, List.length_map, List.length_set, List.length_replicate, and_self, implies_true]
  refine ⟨fun _ => ?_, fun hf => absurd (of_decide_eq_false hf) (by omega)⟩
  refine loop_at [] [0, 2, 3, 4, 5, 6, 7] [0, 1] (fun n : Nat => stP l i n) (fun n => n ≤ 256) (fun n => 256 - n) 0
    (by simp only [stP, idW_zero l i hi, awp_scope, noG_n, noG_r, noG_x, awp_skip, awp_reg, awp_draw, awp_seq, awp_cond, awp_block, awp_loop, awp_exit, awp_ret, arun_nil, arun_op, arun_gt, arun_gf, arunD_nil, arunD_op, arunD_gt, arunD_gf, aq_some, isB_t, isB_u, isB_f, isB_g, isB_p, isU_t, isU_b, ifB_t, ifB_f, thenQ_n, thenQ_x, thenQ_r, inQ_n, inQ_r, inQ_x, retQ_n, retQ_r, exD, AOp.isH, keepN, preB, avalP, pureR, astep, stV, stN, stE, stC, aval, anew, aElems, frzS, frzH, aeff, slots, aret, ares, aress, AV.isTup, eqFs, aEqS, ofC_i, ofC_b, ofC_s, ofC_U, getD_mapU, getD_Bs, Bs_len, Int.toNat_natCast, opd, pt, tk, subp, rdP, Rt.size, Rt.isAgg, Rt.zv, aBin, aInt, aStr, arI, aUn, aToInt, aToStr, aIdxS, zv, aIdxA, aIa, aIaA, aFa, aLd, aFld, pparts, aLo, aHi, cutL, aSlS, aSl, aExt, aNck, aNilc, AV.isStr, aLen, AV.one, AV.multi, pureB, szOk, psz, drp, spl, aEqB, aEqA, aMm, aMkfn, aMkif, aBuild, toV, aBuildA, wrP, unparts, view, nilS, St.ev, lk, St.put, St.pin, St.pinV, acall0, acall1, acall2, acall3, bor, bor0, bor1, phiL_nil, phiL_at, tau, lentO, okIds, flatC, flatB, flatOs, flatO, flatPs, place, setAll_nil, setAll_cons, nodupB, renObj, closeIds, addNew, idsOf, idsObj, posOf, lenOk_0, lenOk_1, lenOk_2, lenOk_3, lenOk_4, lenOk_8, ↓reduceIte, Option.isSome_none, Option.isSome_some, Bool.or_true, Bool.true_or,  Nat.reduceEqDiff, Nat.reduceBEq, Nat.reduceSub, Nat.reduceLT, beq_self_eq_true, List.map, List.set, List.map_cons, List.map_nil, List.flatMap_cons, List.flatMap_nil, List.flatten_cons, List.flatten_nil, true_and, and_true, List.length_cons, List.length_nil, Nat.reduceAdd, Nat.reduceLeDiff, List.nil_append, List.cons_append, List.append_nil, Option.map, mapO, ren, kp, kpI, ent, nilG, Option.bind, List.range, List.range.loop, List.getElem?_cons_zero, List.getElem?_cons_succ, List.getElem?_nil, List.getD_cons_zero, List.getD_cons_succ, List.drop_zero, List.drop_succ_cons, List.drop_nil, List.take_zero, List.take_succ_cons, List.all_cons, List.all_nil, List.isEmpty_nil, List.isEmpty_cons, Bool.and_true, Bool.true_and, Bool.not_true, Bool.not_false, List.contains_nil, reduceCtorEq, List.contains_cons, Bool.or_false, Bool.false_or, eq_self, forall_const, false_implies, Bool.false_eq_true, Nat.le_refl, List.length_map, List.length_set, List.length_replicate, and_self, implies_true]; simp) (by omega) ⟨rfl, rfl⟩ (fun n hn => ?_)
  by_cases hlt : n < 256
  · exact rparse_in l i n _ _ hl hi hlt fun s' hs' => ⟨n + 1, by omega, by omega, hs'⟩
  · have hn : n = 256 := by omega
    subst hn
    have hf : decide (((256 : Nat) : Int) < 256) = false := rfl
    simp only [b_rprs_0, t_rprs_0, t_rprs_1, stP, hf, hret, r_rprs, awp_scope, noG_n, noG_r, noG_x, awp_skip, awp_reg, awp_draw, awp_seq, awp_cond, awp_block, awp_loop, awp_exit, awp_ret, arun_nil, arun_op, arun_gt, arun_gf, arunD_nil, arunD_op, arunD_gt, arunD_gf, aq_some, isB_t, isB_u, isB_f, isB_g, isB_p, isU_t, isU_b, ifB_t, ifB_f, thenQ_n, thenQ_x, thenQ_r, inQ_n, inQ_r, inQ_x, retQ_n, retQ_r, exD, AOp.isH, keepN, preB, avalP, pureR, astep, stV, stN, stE, stC, aval, anew, aElems, frzS, frzH, aeff, slots, aret, ares, aress, AV.isTup, eqFs, aEqS, ofC_i, ofC_b, ofC_s, ofC_U, getD_mapU, getD_Bs, Bs_len, Int.toNat_natCast, opd, pt, tk, subp, rdP, Rt.size, Rt.isAgg, Rt.zv, aBin, aInt, aStr, arI, aUn, aToInt, aToStr, aIdxS, zv, aIdxA, aIa, aIaA, aFa, aLd, aFld, pparts, aLo, aHi, cutL, aSlS, aSl, aExt, aNck, aNilc, AV.isStr, aLen, AV.one, AV.multi, pureB, szOk, psz, drp, spl, aEqB, aEqA, aMm, aMkfn, aMkif, aBuild, toV, aBuildA, wrP, unparts, view, nilS, St.ev, lk, St.put, St.pin, St.pinV, acall0, acall1, acall2, acall3, bor, bor0, bor1, phiL_nil, phiL_at, tau, lentO, okIds, flatC, flatB, flatOs, flatO, flatPs, place, setAll_nil, setAll_cons, nodupB, renObj, closeIds, addNew, idsOf, idsObj, posOf, lenOk_0, lenOk_1, lenOk_2, lenOk_3, lenOk_4, lenOk_8, ↓reduceIte, Option.isSome_none, Option.isSome_some, Bool.or_true, Bool.true_or,  Nat.reduceEqDiff, Nat.reduceBEq, Nat.reduceSub, Nat.reduceLT, beq_self_eq_true, List.map, List.set, List.map_cons, List.map_nil, List.flatMap_cons, List.flatMap_nil, List.flatten_cons, List.flatten_nil, true_and, and_true, List.length_cons, List.length_nil, Nat.reduceAdd, Nat.reduceLeDiff, List.nil_append, List.cons_append, List.append_nil, Option.map, mapO, ren, kp, kpI, ent, nilG, Option.bind, List.range, List.range.loop, List.getElem?_cons_zero, List.getElem?_cons_succ, List.getElem?_nil, List.getD_cons_zero, List.getD_cons_succ, List.drop_zero, List.drop_succ_cons, List.drop_nil, List.take_zero, List.take_succ_cons, List.all_cons, List.all_nil, List.isEmpty_nil, List.isEmpty_cons, Bool.and_true, Bool.true_and, Bool.not_true, Bool.not_false, List.contains_nil, reduceCtorEq, List.contains_cons, Bool.or_false, Bool.false_or, eq_self, forall_const, false_implies, Bool.false_eq_true, Nat.le_refl, List.length_map, List.length_set, List.length_replicate, and_self, implies_true]
    have hv : valP l i < 256 := by
      have b1 := dv_lt (l.getD (2 * i) 0)
      have b2 := dv_lt (l.getD (2 * i + 1) 0)
      unfold valP; omega
    by_cases hok : okP l i
    · have hd : decide (okP l i ∧ valP l i < 256) = true := decide_eq_true ⟨hok, hv⟩
      rw [hd]
      refine ⟨fun h => absurd h (by simp), fun _ => ⟨by simp only [inI]; omega, hK hok _ ?_⟩⟩
      simp only [stQ, awp_scope, noG_n, noG_r, noG_x, awp_skip, awp_reg, awp_draw, awp_seq, awp_cond, awp_block, awp_loop, awp_exit, awp_ret, arun_nil, arun_op, arun_gt, arun_gf, arunD_nil, arunD_op, arunD_gt, arunD_gf, aq_some, isB_t, isB_u, isB_f, isB_g, isB_p, isU_t, isU_b, ifB_t, ifB_f, thenQ_n, thenQ_x, thenQ_r, inQ_n, inQ_r, inQ_x, retQ_n, retQ_r, exD, AOp.isH, keepN, preB, avalP, pureR, astep, stV, stN, stE, stC, aval, anew, aElems, frzS, frzH, aeff, slots, aret, ares, aress, AV.isTup, eqFs, aEqS, ofC_i, ofC_b, ofC_s, ofC_U, getD_mapU, getD_Bs, Bs_len, Int.toNat_natCast, opd, pt, tk, subp, rdP, Rt.size, Rt.isAgg, Rt.zv, aBin, aInt, aStr, arI, aUn, aToInt, aToStr, aIdxS, zv, aIdxA, aIa, aIaA, aFa, aLd, aFld, pparts, aLo, aHi, cutL, aSlS, aSl, aExt, aNck, aNilc, AV.isStr, aLen, AV.one, AV.multi, pureB, szOk, psz, drp, spl, aEqB, aEqA, aMm, aMkfn, aMkif, aBuild, toV, aBuildA, wrP, unparts, view, nilS, St.ev, lk, St.put, St.pin, St.pinV, acall0, acall1, acall2, acall3, bor, bor0, bor1, phiL_nil, phiL_at, tau, lentO, okIds, flatC, flatB, flatOs, flatO, flatPs, place, setAll_nil, setAll_cons, nodupB, renObj, closeIds, addNew, idsOf, idsObj, posOf, lenOk_0, lenOk_1, lenOk_2, lenOk_3, lenOk_4, lenOk_8, ↓reduceIte, Option.isSome_none, Option.isSome_some, Bool.or_true, Bool.true_or,  Nat.reduceEqDiff, Nat.reduceBEq, Nat.reduceSub, Nat.reduceLT, beq_self_eq_true, List.map, List.set, List.map_cons, List.map_nil, List.flatMap_cons, List.flatMap_nil, List.flatten_cons, List.flatten_nil, true_and, and_true, List.length_cons, List.length_nil, Nat.reduceAdd, Nat.reduceLeDiff, List.nil_append, List.cons_append, List.append_nil, Option.map, mapO, ren, kp, kpI, ent, nilG, Option.bind, List.range, List.range.loop, List.getElem?_cons_zero, List.getElem?_cons_succ, List.getElem?_nil, List.getD_cons_zero, List.getD_cons_succ, List.drop_zero, List.drop_succ_cons, List.drop_nil, List.take_zero, List.take_succ_cons, List.all_cons, List.all_nil, List.isEmpty_nil, List.isEmpty_cons, Bool.and_true, Bool.true_and, Bool.not_true, Bool.not_false, List.contains_nil, reduceCtorEq, List.contains_cons, Bool.or_false, Bool.false_or, eq_self, forall_const, false_implies, Bool.false_eq_true, Nat.le_refl, List.length_map, List.length_set, List.length_replicate, and_self, implies_true]
      have hw : idW l i 256 = idV l (i + 1) := by
        unfold idW idV
        rw [if_pos ⟨hok, hv⟩, List.range_succ, List.map_append, show 20 - (i + 1) = 19 - i by omega]
        rfl
      rw [hw]
      rfl
    · have hd : decide (okP l i ∧ valP l i < 256) = false := decide_eq_false fun h => hok h.1
      rw [hd]
      refine ⟨fun _ => ?_, fun h => absurd h (by simp)⟩
      rw [hR hok]
      simp only [Bool.false_eq_true, renObj, finP, finI, closeIds, addNew, idsOf, List.flatMap_nil, List.flatMap_cons, List.append_nil, List.nil_append, List.take_zero, nodupB, posOf, idsObj, List.getD_cons_zero, List.getD_cons_succ, List.range, List.range.loop, ren, lentO, mapO, Option.map, ↓reduceIte, Nat.reduceEqDiff, true_and, and_true, List.getElem?_cons_zero, List.getElem?_cons_succ, Nat.reduceAdd, List.contains_nil, Bool.not_false, Bool.and_true, List.map_nil, List.map_cons, List.take_succ_cons]
theorem rparse_ok : FnOk Tryz.prog 55 rparseS := by
  refine fn_slim Tryz.func55 s_rprs (Φ := phiD) (phi_cons digit_ok (by kernel_rfl) phi_nil) ?_
  intro xs hp r hs hp'
  unfold rparseS at hs
  split at hs
  · injection hs with hs; subst hs
    rename_i l
    refine ⟨len_le (by kernel_rfl), ?_⟩
    have p1 : l.length ≤ 1000000000 := hp'
    clear hp'
    rw [rOut_U]
    obtain ⟨R, hR⟩ : ∃ R, R = Ret.mk (.tup [.blob (if goodP l = true then idV l 20 else List.replicate 20 (.int .u8 0)), .bool (goodP l)]) [] (l.length ≤ 1000000000) := ⟨_, rfl⟩
    rw [← hR]
    simp only [c_rprs, awp_scope, noG_n, noG_r, noG_x, awp_skip, awp_reg, awp_draw, awp_seq, awp_cond, awp_block, awp_loop, awp_exit, awp_ret, arun_nil, arun_op, arun_gt, arun_gf, arunD_nil, arunD_op, arunD_gt, arunD_gf, aq_some, isB_t, isB_u, isB_f, isB_g, isB_p, isU_t, isU_b, ifB_t, ifB_f, thenQ_n, thenQ_x, thenQ_r, inQ_n, inQ_r, inQ_x, retQ_n, retQ_r, exD, AOp.isH, keepN, preB, avalP, pureR, astep, stV, stN, stE, stC, aval, anew, aElems, frzS, frzH, aeff, slots, aret, ares, aress, AV.isTup, eqFs, aEqS, ofC_i, ofC_b, ofC_s, ofC_U, getD_mapU, getD_Bs, Bs_len, Int.toNat_natCast, opd, pt, tk, subp, rdP, Rt.size, Rt.isAgg, Rt.zv, aBin, aInt, aStr, arI, aUn, aToInt, aToStr, aIdxS, zv, aIdxA, aIa, aIaA, aFa, aLd, aFld, pparts, aLo, aHi, cutL, aSlS, aSl, aExt, aNck, aNilc, AV.isStr, aLen, AV.one, AV.multi, pureB, szOk, psz, drp, spl, aEqB, aEqA, aMm, aMkfn, aMkif, aBuild, toV, aBuildA, wrP, unparts, view, nilS, St.ev, lk, St.put, St.pin, St.pinV, acall0, acall1, acall2, acall3, bor, bor0, bor1, phiL_nil, phiL_at, tau, lentO, okIds, flatC, flatB, flatOs, flatO, flatPs, place, setAll_nil, setAll_cons, nodupB, renObj, closeIds, addNew, idsOf, idsObj, posOf, lenOk_0, lenOk_1, lenOk_2, lenOk_3, lenOk_4, lenOk_8, ↓reduceIte, Option.isSome_none, Option.isSome_some, Bool.or_true, Bool.true_or,  Nat.reduceEqDiff, Nat.reduceBEq, Nat.reduceSub, Nat.reduceLT, beq_self_eq_true, List.map, List.set, List.map_cons, List.map_nil, List.flatMap_cons, List.flatMap_nil, List.flatten_cons, List.flatten_nil, true_and, and_true, List.length_cons, List.length_nil, Nat.reduceAdd, Nat.reduceLeDiff, List.nil_append, List.cons_append, List.append_nil, Option.map, mapO, ren, kp, kpI, ent, nilG, Option.bind, List.range, List.range.loop, List.getElem?_cons_zero, List.getElem?_cons_succ, List.getElem?_nil, List.getD_cons_zero, List.getD_cons_succ, List.drop_zero, List.drop_succ_cons, List.drop_nil, List.take_zero, List.take_succ_cons, List.all_cons, List.all_nil, List.isEmpty_nil, List.isEmpty_cons, Bool.and_true, Bool.true_and, Bool.not_true, Bool.not_false, List.contains_nil, reduceCtorEq, List.contains_cons, Bool.or_false, Bool.false_or, eq_self, forall_const, false_implies, Bool.false_eq_true, Nat.le_refl, List.length_map, List.length_set, List.length_replicate, and_self, implies_true]
    refine ⟨fun hc => ?_, fun hc => ?_⟩
    · have hl : l.length ≠ 40 := by intro h; rw [h] at hc; simp at hc
      have hg : goodP l = false := by unfold goodP; simp [hl]
      simp only [hR, hg, r_rprs, awp_scope, noG_n, noG_r, noG_x, awp_skip, awp_reg, awp_draw, awp_seq, awp_cond, awp_block, awp_loop, awp_exit, awp_ret, arun_nil, arun_op, arun_gt, arun_gf, arunD_nil, arunD_op, arunD_gt, arunD_gf, aq_some, isB_t, isB_u, isB_f, isB_g, isB_p, isU_t, isU_b, ifB_t, ifB_f, thenQ_n, thenQ_x, thenQ_r, inQ_n, inQ_r, inQ_x, retQ_n, retQ_r, exD, AOp.isH, keepN, preB, avalP, pureR, astep, stV, stN, stE, stC, aval, anew, aElems, frzS, frzH, aeff, slots, aret, ares, aress, AV.isTup, eqFs, aEqS, ofC_i, ofC_b, ofC_s, ofC_U, getD_mapU, getD_Bs, Bs_len, Int.toNat_natCast, opd, pt, tk, subp, rdP, Rt.size, Rt.isAgg, Rt.zv, aBin, aInt, aStr, arI, aUn, aToInt, aToStr, aIdxS, zv, aIdxA, aIa, aIaA, aFa, aLd, aFld, pparts, aLo, aHi, cutL, aSlS, aSl, aExt, aNck, aNilc, AV.isStr, aLen, AV.one, AV.multi, pureB, szOk, psz, drp, spl, aEqB, aEqA, aMm, aMkfn, aMkif, aBuild, toV, aBuildA, wrP, unparts, view, nilS, St.ev, lk, St.put, St.pin, St.pinV, acall0, acall1, acall2, acall3, bor, bor0, bor1, phiL_nil, phiL_at, tau, lentO, okIds, flatC, flatB, flatOs, flatO, flatPs, place, setAll_nil, setAll_cons, nodupB, renObj, closeIds, addNew, idsOf, idsObj, posOf, lenOk_0, lenOk_1, lenOk_2, lenOk_3, lenOk_4, lenOk_8, ↓reduceIte, Option.isSome_none, Option.isSome_some, Bool.or_true, Bool.true_or,  Nat.reduceEqDiff, Nat.reduceBEq, Nat.reduceSub, Nat.reduceLT, beq_self_eq_true, List.map, List.set, List.map_cons, List.map_nil, List.flatMap_cons, List.flatMap_nil, List.flatten_cons, List.flatten_nil, true_and, and_true, List.length_cons, List.length_nil, Nat.reduceAdd, Nat.reduceLeDiff, List.nil_append, List.cons_append, List.append_nil, Option.map, mapO, ren, kp, kpI, ent, nilG, Option.bind, List.range, List.range.loop, List.getElem?_cons_zero, List.getElem?_cons_succ, List.getElem?_nil, List.getD_cons_zero, List.getD_cons_succ, List.drop_zero, List.drop_succ_cons, List.drop_nil, List.take_zero, List.take_succ_cons, List.all_cons, List.all_nil, List.isEmpty_nil, List.isEmpty_cons, Bool.and_true, Bool.true_and, Bool.not_true, Bool.not_false, List.contains_nil, reduceCtorEq, List.contains_cons, Bool.or_false, Bool.false_or, eq_self, forall_const, false_implies, Bool.false_eq_true, Nat.le_refl, List.length_map, List.length_set, List.length_replicate, and_self, implies_true]
      simp only [Bool.false_eq_true, renObj, finP, finI, closeIds, addNew, idsOf, List.flatMap_nil, List.flatMap_cons, List.append_nil, List.nil_append, List.take_zero, nodupB, posOf, idsObj, List.getD_cons_zero, List.getD_cons_succ, List.range, List.range.loop, ren, lentO, mapO, Option.map, ↓reduceIte, Nat.reduceEqDiff, true_and, and_true, List.getElem?_cons_zero, List.getElem?_cons_succ, Nat.reduceAdd, List.contains_nil, Bool.not_false, Bool.and_true, List.map_nil, List.map_cons, List.take_succ_cons]
    · have hl : l.length = 40 := by
        have : ¬ ¬ ((l.length : Int) = 40) := by simpa using hc
        omega
      clear hc
      refine loop_at [] [0, 2, 3, 4, 5] [0, 1] (fun i : Nat => stQ l i) (fun i => i ≤ 20 ∧ ∀ j, j < i → okP l j) (fun i => 20 - i) 0
        rfl ⟨by omega, fun j hj => by omega⟩ ⟨rfl, rfl⟩ (fun i hi => ?_)
      obtain ⟨hi20, hal⟩ := hi
      by_cases hlt : i < 20
      · refine rprs_round l i _ R hl hlt (fun hno => ?_) fun hok s' hs' => ⟨i + 1, ⟨by omega, fun j hj => ?_⟩, by omega, hs'⟩
        · have hg : goodP l = false := by
            cases h : goodP l with
            | false => rfl
            | true =>
              unfold goodP at h
              simp only [Bool.and_eq_true, List.all_eq_true, decide_eq_true_eq] at h
              exact absurd (h.2 i (List.mem_range.2 hlt)) hno
          rw [hR, hg]; rfl
        · rcases Nat.lt_or_ge j i with h | h
          · exact hal j h
          · rw [show j = i by omega]; exact hok
      · have hi : i = 20 := by omega
        subst hi
        have hg : goodP l = true := by
          unfold goodP
          simp only [Bool.and_eq_true, List.all_eq_true, decide_eq_true_eq]
          exact ⟨hl, fun j hj => hal j (List.mem_range.1 hj)⟩
        have hf : decide (((20 : Nat) : Int) < 20) = false := rfl
        simp only [b_rprs_1, t_rprs_2, stQ, hf, r_rprs, hR, hg, awp_scope, noG_n, noG_r, noG_x, awp_skip, awp_reg, awp_draw, awp_seq, awp_cond, awp_block, awp_loop, awp_exit, awp_ret, arun_nil, arun_op, arun_gt, arun_gf, arunD_nil, arunD_op, arunD_gt, arunD_gf, aq_some, isB_t, isB_u, isB_f, isB_g, isB_p, isU_t, isU_b, ifB_t, ifB_f, thenQ_n, thenQ_x, thenQ_r, inQ_n, inQ_r, inQ_x, retQ_n, retQ_r, exD, AOp.isH, keepN, preB, avalP, pureR, astep, stV, stN, stE, stC, aval, anew, aElems, frzS, frzH, aeff, slots, aret, ares, aress, AV.isTup, eqFs, aEqS, ofC_i, ofC_b, ofC_s, ofC_U, getD_mapU, getD_Bs, Bs_len, Int.toNat_natCast, opd, pt, tk, subp, rdP, Rt.size, Rt.isAgg, Rt.zv, aBin, aInt, aStr, arI, aUn, aToInt, aToStr, aIdxS, zv, aIdxA, aIa, aIaA, aFa, aLd, aFld, pparts, aLo, aHi, cutL, aSlS, aSl, aExt, aNck, aNilc, AV.isStr, aLen, AV.one, AV.multi, pureB, szOk, psz, drp, spl, aEqB, aEqA, aMm, aMkfn, aMkif, aBuild, toV, aBuildA, wrP, unparts, view, nilS, St.ev, lk, St.put, St.pin, St.pinV, acall0, acall1, acall2, acall3, bor, bor0, bor1, phiL_nil, phiL_at, tau, lentO, okIds, flatC, flatB, flatOs, flatO, flatPs, place, setAll_nil, setAll_cons, nodupB, renObj, closeIds, addNew, idsOf, idsObj, posOf, lenOk_0, lenOk_1, lenOk_2, lenOk_3, lenOk_4, lenOk_8, ↓reduceIte, Option.isSome_none, Option.isSome_some, Bool.or_true, Bool.true_or,  Nat.reduceEqDiff, Nat.reduceBEq, Nat.reduceSub, Nat.reduceLT, beq_self_eq_true, List.map, List.set, List.map_cons, List.map_nil, List.flatMap_cons, List.flatMap_nil, List.flatten_cons, List.flatten_nil, true_and, and_true, List.length_cons, List.length_nil, Nat.reduceAdd, Nat.reduceLeDiff, List.nil_append, List.cons_append, List.append_nil, Option.map, mapO, ren, kp, kpI, ent, nilG, Option.bind, List.range, List.range.loop, List.getElem?_cons_zero, List.getElem?_cons_succ, List.getElem?_nil, List.getD_cons_zero, List.getD_cons_succ, List.drop_zero, List.drop_succ_cons, List.drop_nil, List.take_zero, List.take_succ_cons, List.all_cons, List.all_nil, List.isEmpty_nil, List.isEmpty_cons, Bool.and_true, Bool.true_and, Bool.not_true, Bool.not_false, List.contains_nil, reduceCtorEq, List.contains_cons, Bool.or_false, Bool.false_or, eq_self, forall_const, false_implies, Bool.false_eq_true, Nat.le_refl, List.length_map, List.length_set, List.length_replicate, and_self, implies_true]
        refine ⟨by simp [idV], ?_⟩
        simp only [Bool.false_eq_true, renObj, finP, finI, closeIds, addNew, idsOf, List.flatMap_nil, List.flatMap_cons, List.append_nil, List.nil_append, List.take_zero, nodupB, posOf, idsObj, List.getD_cons_zero, List.getD_cons_succ, List.range, List.range.loop, ren, lentO, mapO, Option.map, ↓reduceIte, Nat.reduceEqDiff, true_and, and_true, List.getElem?_cons_zero, List.getElem?_cons_succ, Nat.reduceAdd, List.contains_nil, Bool.not_false, Bool.and_true, List.map_nil, List.map_cons, List.take_succ_cons]
  · cases hs
end Go.Proofs.YtlkaaoekbmegkaaGreatDoor
namespace Go.Proofs.YtlkaaoekbmegkaaGreatDoor
set_option linter.all false
open Go.RowKit
theorem goodQ_iff (l : List UInt8) : goodQ l = true ↔ l.length = 40 ∧ ∀ c ∈ l, 0 ≤ dv c := by unfold goodQ; simp
theorem goodP_eq (l : List UInt8) : goodP l = goodQ l := by
  rw [Bool.eq_iff_iff, goodQ_iff]
  unfold goodP
  simp only [Bool.and_eq_true, List.all_eq_true, decide_eq_true_eq, List.mem_range]
  constructor
  · rintro ⟨h1, h2⟩
    refine ⟨h1, fun c hc => ?_⟩
    obtain ⟨n, hn, rfl⟩ := List.getElem_of_mem hc
    have h3 := h2 (n / 2) (by omega)
    have e : ∀ k, k < l.length → l.getD k 0 = l.getD k 0 := fun _ _ => rfl
    have hg : l.getD n 0 = l[n] := by rw [List.getD_eq_getElem?_getD, List.getElem?_eq_getElem hn]; rfl
    rcases (show n = 2 * (n / 2) ∨ n = 2 * (n / 2) + 1 by omega) with e | e
    · have := h3.1; rw [← e, hg] at this; exact this
    · have := h3.2; rw [← e, hg] at this; exact this
  · rintro ⟨h1, h2⟩
    have hat : ∀ n, n < 40 → 0 ≤ dv (l.getD n 0) := fun n hn => h2 _ (by rw [List.getD_eq_getElem?_getD, List.getElem?_eq_getElem (by omega)]; exact List.getElem_mem _)
    exact ⟨h1, fun x hx => ⟨hat _ (by omega), hat _ (by omega)⟩⟩
theorem rOut_eq (l : List UInt8) : rOut l = pOut l := by
  unfold rOut pOut
  rw [goodP_eq]
  split
  · unfold outL
    refine List.map_congr_left fun j hj => ?_
    have := List.mem_range.1 hj
    unfold outN valP
    rw [if_pos (by omega)]
  · rfl
theorem pOut_len (l : List UInt8) : (pOut l).length = 20 := by
  unfold pOut
  split
  · exact outL_length _ _
  · simp
theorem hex_good (l : List UInt8) (h : l.length = 20) : goodQ (hexL l) = true := (goodQ_iff _).2 ⟨by rw [hexL_length, h], hexL_ok l⟩
theorem pOut_hex (l : List UInt8) (h : l.length = 20) : pOut (hexL l) = l := by unfold pOut; rw [if_pos (hex_good l h), parse_hex l h]
theorem hex_pOut (l : List UInt8) (h : goodQ l = true) : hexL (pOut l) = l := by
  unfold pOut
  rw [if_pos h]
  exact hex_parse l ((goodQ_iff l).1 h).1 ((goodQ_iff l).1 h).2
end Go.Proofs.YtlkaaoekbmegkaaGreatDoor
namespace Go.Proofs.YtlkaaoekbmegkaaGreatDoor
set_option linter.all false
open Go.RowKit
open Go.Lib (index hasPrefix cut indexAny itoa)
def mustG (s : List UInt8) (b : Bool) (w : List UInt8) : List UInt8 × List UInt8 × Bool :=
  match lineG s w with
  | some (x, r) => (x, r, b)
  | none => ([], s, true)
theorem mustG_len (s : List UInt8) (b : Bool) (w : List UInt8) : (mustG s b w).1.length ≤ s.length ∧ (mustG s b w).2.1.length ≤ s.length := by
  unfold mustG
  cases h : lineG s w with
  | none => simp
  | some p => obtain ⟨x, r⟩ := p; have := lineG_len h; simp only; omega
def mustS : Spec := fun xs hp => match xs, hp with
  | [.ref 0 0 0, .str w], [.cells T [(1, .str s), (1, .bool b)]] => some ⟨.str (mustG s b w).1, [.cells T [(1, .str (mustG s b w).2.1), (1, .bool (mustG s b w).2.2)]], s.length ≤ 1000000000⟩
  | _, _ => none
theorem must_ok : FnOk Tryz.prog 53 mustS := by
  refine fn_slim2 Tryz.func53 s_cmust (Φ := phiL [(74, [], lineS)]) (phi_cons line_ok (by kernel_rfl) phi_nil) ?_
  intro xs hp r hs hp'
  unfold mustS at hs
  split at hs
  · injection hs with hs; subst hs
    rename_i w T s b
    have p1 : s.length ≤ 1000000000 := hp'
    refine ⟨len_le (by kernel_rfl), ?_⟩
    cases h : lineG s w with
    | none =>
      have e : mustG s b w = ([], s, true) := by unfold mustG; rw [h]
      rw [e]
      simp only [c_cmust, r_cmust, lineS, h, lineR, go_sem, Nat.reduceDiv, Nat.reduceMod, ↓reduceIte, Nat.reduceEqDiff, Nat.reduceBEq, Nat.reduceSub, Nat.reduceLT, Nat.reduceAdd, Nat.reduceLeDiff, reduceCtorEq, Int.reduceEq, Int.reduceNe, Int.reduceLT, Int.reduceLE, Int.reduceToNat]
      exact p1
    | some p =>
      obtain ⟨x, rr⟩ := p
      have e : mustG s b w = (x, rr, b) := by unfold mustG; rw [h]
      rw [e]
      simp only [c_cmust, r_cmust, lineS, h, lineR, go_sem, Nat.reduceDiv, Nat.reduceMod, ↓reduceIte, Nat.reduceEqDiff, Nat.reduceBEq, Nat.reduceSub, Nat.reduceLT, Nat.reduceAdd, Nat.reduceLeDiff, reduceCtorEq, Int.reduceEq, Int.reduceNe, Int.reduceLT, Int.reduceLE, Int.reduceToNat]
      exact p1
  · cases hs
def cidS : Spec := fun xs hp => match xs, hp with
  | [.ref 0 0 0, .str w], [.cells T [(1, .str s), (1, .bool b)]] => some ⟨.blob ((pOut (mustG s b w).1).map U), [.cells T [(1, .str (mustG s b w).2.1), (1, .bool ((mustG s b w).2.2 || !goodQ (mustG s b w).1))]], s.length ≤ 1000000000⟩
  | _, _ => none
set_option maxHeartbeats 2000000 in
theorem cid_ok : FnOk Tryz.prog 49 cidS := by
  refine fn_slim2 Tryz.func49 s_cid (Φ := phiL [(53, [], mustS), (72, [], parseS)]) (phi_cons must_ok (by kernel_rfl) (phi_cons parse_ok (by kernel_rfl) phi_nil)) ?_
  intro xs hp r hs hp'
  unfold cidS at hs
  split at hs
  · injection hs with hs; subst hs
    rename_i w T s b
    have p1 : s.length ≤ 1000000000 := hp'
    refine ⟨len_le (by kernel_rfl), ?_⟩
    have hl := mustG_len s b w
    have h20 := pOut_len (mustG s b w).1
    simp only [c_cid, mustS, parseS, go_sem, Nat.reduceDiv, Nat.reduceMod, ↓reduceIte, Nat.reduceEqDiff, Nat.reduceBEq, Nat.reduceSub, Nat.reduceLT, Nat.reduceAdd, Nat.reduceLeDiff, reduceCtorEq, Int.reduceEq, Int.reduceNe, Int.reduceLT, Int.reduceLE, Int.reduceToNat]
    generalize mustG s b w = M at *
    unfold pErr
    cases h1 : M.2.2 <;> cases h2 : goodQ M.1
    all_goals (
      simp only [k_cid_2, r_cid, mustS, parseS, h1, h2, h20, if_true, if_false, Bool.false_eq_true, go_sem, Nat.reduceDiv, Nat.reduceMod, ↓reduceIte, Nat.reduceEqDiff, Nat.reduceBEq, Nat.reduceSub, Nat.reduceLT, Nat.reduceAdd, Nat.reduceLeDiff, reduceCtorEq, Int.reduceEq, Int.reduceNe, Int.reduceLT, Int.reduceLE, Int.reduceToNat]
      repeat' apply And.intro
      all_goals first | omega | rfl | trivial | skip)
  · cases hs
noncomputable def cwhoS : Spec := fun xs hp => match xs, hp with
  | [.ref 0 0 0, .str w], [.cells T [(1, .str s), (1, .bool b)]] => some ⟨.agg (whoP (personV (mustG s b w).1)), [.cells T [(1, .str (mustG s b w).2.1), (1, .bool ((mustG s b w).2.2 || !personB (mustG s b w).1))]], s.length ≤ 1000000000⟩
  | _, _ => none
set_option maxHeartbeats 2000000 in
theorem cwho_ok : FnOk Tryz.prog 51 cwhoS := by
  refine fn_slim2 Tryz.func51 s_cwho (Φ := phiL [(53, [], mustS), (19, [], personS)]) (phi_cons must_ok (by kernel_rfl) (phi_cons person_ok (by kernel_rfl) phi_nil)) ?_
  intro xs hp r hs hp'
  unfold cwhoS at hs
  split at hs
  · injection hs with hs; subst hs
    rename_i w T s b
    have p1 : s.length ≤ 1000000000 := hp'
    refine ⟨len_le (by kernel_rfl), ?_⟩
    have hl := mustG_len s b w
    simp only [c_cwho, mustS, personS, personR, whoP, go_sem, Nat.reduceDiv, Nat.reduceMod, ↓reduceIte, Nat.reduceEqDiff, Nat.reduceBEq, Nat.reduceSub, Nat.reduceLT, Nat.reduceAdd, Nat.reduceLeDiff, reduceCtorEq, Int.reduceEq, Int.reduceNe, Int.reduceLT, Int.reduceLE, Int.reduceToNat]
    generalize mustG s b w = M at *
    generalize personV M.1 = V at *
    cases h1 : M.2.2 <;> cases h2 : personB M.1
    all_goals (
      simp only [k_cwho_2, r_cwho, h1, h2, if_true, if_false, Bool.false_eq_true, go_sem, Nat.reduceDiv, Nat.reduceMod, ↓reduceIte, Nat.reduceEqDiff, Nat.reduceBEq, Nat.reduceSub, Nat.reduceLT, Nat.reduceAdd, Nat.reduceLeDiff, reduceCtorEq, Int.reduceEq, Int.reduceNe, Int.reduceLT, Int.reduceLE, Int.reduceToNat]
      repeat' apply And.intro
      all_goals first | omega | rfl | trivial | skip)
  · cases hs
end Go.Proofs.YtlkaaoekbmegkaaGreatDoor
namespace Go.Proofs.YtlkaaoekbmegkaaGreatDoor
set_option linter.all false
open Go.RowKit
def b_cextras_0 : ACode := (.block 3 (.seq (.reg none [⟨(some 40), (.mv (.t 0)), none⟩, ⟨(some 41), (.nck (.t 40)), none⟩, ⟨(some 42), (.fa 0 (.t 41)), none⟩, ⟨(some 43), (.buildSl 9 1 [(.c (.str [32]))]), none⟩, ⟨(some 44), (.call 74 [(.t 42), (.t 43)]), none⟩, ⟨(some 39), (.mv (.t 44)), none⟩, ⟨(some 45), (.ext (.t 39) 0), none⟩, ⟨(some 46), (.ext (.t 39) 1), none⟩, ⟨(some 9), (.mv (.t 45)), none⟩, ⟨(some 10), (.mv (.t 46)), none⟩]) (.seq (.seq (.reg none [⟨(some 47), (.mv (.t 10)), none⟩, ⟨(some 48), (.bin .lss (.t 47) (.c (.int .i64 0))), none⟩]) (.cond (.t 48) (.exit 2) .skip)) (.reg none [⟨(some 49), (.fa 1 (.t 8)), none⟩, ⟨(some 50), (.ld (.one (.str [])) (.t 49)), none⟩, ⟨(some 51), (.mv (.t 9)), none⟩, ⟨(some 52), (.bin .add (.c (.str [10])) (.t 51)), none⟩, ⟨(some 53), (.bin .add (.t 50) (.t 52)), none⟩, ⟨(some 54), (.fa 1 (.t 8)), none⟩, ⟨none, (.st (.one (.str [])) (.t 54) (.t 53)), none⟩]))))
def t_cextras_0 : ACode := (.seq (.reg none [⟨(some 55), (.mv (.t 0)), none⟩, ⟨(some 56), (.mv (.t 0)), none⟩, ⟨(some 57), (.nck (.t 56)), none⟩, ⟨(some 58), (.fa 0 (.t 57)), none⟩, ⟨(some 59), (.fa 1 (.t 58)), none⟩, ⟨(some 60), (.ld (.one (.bool false)) (.t 59)), none⟩, ⟨(some 61), (.mv (.t 60)), none⟩, ⟨(some 62), (.mv (.t 7)), (some (61, false))⟩, ⟨(some 63), (.un .not (.t 62)), (some (61, false))⟩, ⟨(some 64), (.pick (.t 61) (.c (.bool true)) (.t 63)), none⟩, ⟨(some 65), (.mv (.t 64)), none⟩, ⟨(some 66), (.ld (.st 2) (.t 8)), (some (65, false))⟩, ⟨(some 67), (.call 32 [(.t 66)]), (some (65, false))⟩, ⟨(some 68), (.un .not (.t 67)), (some (65, false))⟩, ⟨(some 69), (.pick (.t 65) (.c (.bool true)) (.t 68)), none⟩, ⟨(some 70), (.nck (.t 55)), none⟩, ⟨(some 71), (.fa 0 (.t 70)), none⟩, ⟨(some 72), (.fa 1 (.t 71)), none⟩, ⟨none, (.st (.one (.bool false)) (.t 72) (.t 69)), none⟩]) (.reg none [⟨(some 73), (.mv (.t 3)), none⟩, ⟨(some 74), (.ld (.st 2) (.t 8)), none⟩, ⟨(some 75), (.buildSl 75 2 [(.t 74)]), none⟩, ⟨(some 76), (.app 75 2 32 (.t 73) (.t 75)), none⟩, ⟨(some 3), (.mv (.t 76)), none⟩]))
def b_cextras_1 : ACode := (.seq (.seq (.reg none [⟨(some 11), (.mv (.t 0)), none⟩, ⟨(some 12), (.nck (.t 11)), none⟩, ⟨(some 13), (.fa 0 (.t 12)), none⟩, ⟨(some 14), (.fa 1 (.t 13)), none⟩, ⟨(some 15), (.ld (.one (.bool false)) (.t 14)), none⟩, ⟨(some 16), (.un .not (.t 15)), none⟩, ⟨(some 17), (.mv (.t 16)), none⟩, ⟨(some 18), (.mv (.t 0)), (some (17, true))⟩, ⟨(some 19), (.nck (.t 18)), (some (17, true))⟩, ⟨(some 20), (.fa 0 (.t 19)), (some (17, true))⟩, ⟨(some 21), (.fa 0 (.t 20)), (some (17, true))⟩, ⟨(some 22), (.ld (.one (.str [])) (.t 21)), (some (17, true))⟩, ⟨(some 23), (.call 50 [(.t 22), (.c (.str [10]))]), (some (17, true))⟩, ⟨(some 24), (.un .not (.t 23)), (some (17, true))⟩, ⟨(some 25), (.pick (.t 17) (.t 24) (.c (.bool false))), none⟩]) (.cond (.t 25) .skip (.exit 0))) (.block 1 (.seq (.reg none [⟨(some 26), (.mv (.t 0)), none⟩, ⟨(some 27), (.nck (.t 26)), none⟩, ⟨(some 28), (.fa 0 (.t 27)), none⟩, ⟨(some 29), (.call 53 [(.t 28), (.c (.str []))]), none⟩, ⟨(some 4), (.mv (.t 29)), none⟩]) (.seq (.reg none [⟨(some 31), (.mv (.t 4)), none⟩, ⟨(some 32), (.call 44 [(.t 31), (.c (.str [32]))]), none⟩, ⟨(some 30), (.mv (.t 32)), none⟩, ⟨(some 33), (.ext (.t 30) 0), none⟩, ⟨(some 34), (.ext (.t 30) 1), none⟩, ⟨(some 35), (.ext (.t 30) 2), none⟩, ⟨(some 5), (.mv (.t 33)), none⟩, ⟨(some 6), (.mv (.t 34)), none⟩, ⟨(some 7), (.mv (.t 35)), none⟩]) (.seq (.reg none [⟨(some 36), (.mv (.t 5)), none⟩, ⟨(some 37), (.mv (.t 6)), none⟩, ⟨(some 38), (.build [(1, (.str [])), (1, (.str []))] [(0, (1, (.t 36))), (1, (1, (.t 37)))]), none⟩, ⟨(some 8), (.new 75 [(1, (.str [])), (1, (.str []))]), none⟩, ⟨none, (.st (.st 2) (.t 8) (.t 38)), none⟩]) (.seq (.block 2 (.loop b_cextras_0)) t_cextras_0))))))
def t_cextras_1 : ACode := (.seq (.reg none [⟨(some 77), (.mv (.t 3)), none⟩, ⟨(some 2), (.mv (.t 77)), none⟩]) .ret)
def c_cextras : ACode := (.seq (.reg none [⟨(some 2), (.mv (.c (.con (.slice none 0 0)))), none⟩]) (.seq (.reg none [⟨(some 3), (.mv (.c (.con (.slice none 0 0)))), none⟩]) (.seq (.block 0 (.loop b_cextras_1)) t_cextras_1)))
def r_cextras : List ARes := [(.t 2)]
theorem s_cextras : slimF Tryz.prog Tryz.f52 = some (c_cextras, r_cextras) := by kernel_rfl
def b_cpar_0 : ACode := (.seq (.seq (.reg none [⟨(some 16), (.mv (.t 4)), none⟩, ⟨(some 17), (.nck (.t 16)), none⟩, ⟨(some 18), (.fa 0 (.t 17)), none⟩, ⟨(some 19), (.fa 1 (.t 18)), none⟩, ⟨(some 20), (.ld (.one (.bool false)) (.t 19)), none⟩, ⟨(some 21), (.un .not (.t 20)), none⟩, ⟨(some 22), (.mv (.t 21)), none⟩, ⟨(some 23), (.mv (.t 4)), (some (22, true))⟩, ⟨(some 24), (.nck (.t 23)), (some (22, true))⟩, ⟨(some 25), (.fa 0 (.t 24)), (some (22, true))⟩, ⟨(some 26), (.fa 0 (.t 25)), (some (22, true))⟩, ⟨(some 27), (.ld (.one (.str [])) (.t 26)), (some (22, true))⟩, ⟨(some 28), (.call 50 [(.t 27), (.c (.str [112, 97, 114, 101, 110, 116, 32]))]), (some (22, true))⟩, ⟨(some 29), (.pick (.t 22) (.t 28) (.c (.bool false))), none⟩]) (.cond (.t 29) .skip (.exit 0))) (.block 1 (.seq (.reg none [⟨(some 30), (.mv (.t 4)), none⟩, ⟨(some 31), (.call 49 [(.t 30), (.c (.str [112, 97, 114, 101, 110, 116, 32]))]), none⟩, ⟨(some 6), (.new 29 [(20, (.blob (List.replicate 20 (.int .u8 0))))]), none⟩, ⟨none, (.st (.arr 20) (.t 6) (.t 31)), none⟩]) (.reg none [⟨(some 32), (.fa 20 (.t 5)), none⟩, ⟨(some 33), (.ld (.one (.con (.slice none 0 0))) (.t 32)), none⟩, ⟨(some 34), (.ld (.arr 20) (.t 6)), none⟩, ⟨(some 35), (.buildSl 29 20 [(.t 34)]), none⟩, ⟨(some 36), (.app 29 20 20 (.t 33) (.t 35)), none⟩, ⟨(some 37), (.fa 20 (.t 5)), none⟩, ⟨none, (.st (.one (.con (.slice none 0 0))) (.t 37) (.t 36)), none⟩]))))
def t_cpar_0 : ACode := (.seq (.reg none [⟨(some 38), (.mv (.t 4)), none⟩, ⟨(some 39), (.call 51 [(.t 38), (.c (.str [97, 117, 116, 104, 111, 114, 32]))]), none⟩, ⟨(some 40), (.fa 21 (.t 5)), none⟩, ⟨none, (.st (.st 4) (.t 40) (.t 39)), none⟩]) (.seq (.reg none [⟨(some 41), (.mv (.t 4)), none⟩, ⟨(some 42), (.call 51 [(.t 41), (.c (.str [99, 111, 109, 109, 105, 116, 116, 101, 114, 32]))]), none⟩, ⟨(some 43), (.fa 25 (.t 5)), none⟩, ⟨none, (.st (.st 4) (.t 43) (.t 42)), none⟩]) (.seq (.reg none [⟨(some 44), (.mv (.t 4)), none⟩, ⟨(some 45), (.call 52 [(.t 44)]), none⟩, ⟨(some 46), (.fa 29 (.t 5)), none⟩, ⟨none, (.st (.one (.con (.slice none 0 0))) (.t 46) (.t 45)), none⟩]) (.seq (.reg none [⟨(some 47), (.mv (.t 4)), none⟩, ⟨(some 48), (.nck (.t 47)), none⟩, ⟨(some 49), (.fa 0 (.t 48)), none⟩, ⟨(some 50), (.call 53 [(.t 49), (.c (.str []))]), none⟩, ⟨(some 7), (.mv (.t 50)), none⟩]) (.seq (.reg none [⟨(some 51), (.mv (.t 4)), none⟩, ⟨(some 52), (.nck (.t 51)), none⟩, ⟨(some 53), (.fa 0 (.t 52)), none⟩, ⟨(some 54), (.fa 0 (.t 53)), none⟩, ⟨(some 55), (.ld (.one (.str [])) (.t 54)), none⟩, ⟨(some 56), (.fa 30 (.t 5)), none⟩, ⟨none, (.st (.one (.str [])) (.t 56) (.t 55)), none⟩]) (.seq (.seq (.reg none [⟨(some 57), (.mv (.t 4)), none⟩, ⟨(some 58), (.nck (.t 57)), none⟩, ⟨(some 59), (.fa 0 (.t 58)), none⟩, ⟨(some 60), (.fa 1 (.t 59)), none⟩, ⟨(some 61), (.ld (.one (.bool false)) (.t 60)), none⟩, ⟨(some 62), (.mv (.t 61)), none⟩, ⟨(some 63), (.mv (.t 7)), (some (62, false))⟩, ⟨(some 64), (.bin .neq (.t 63) (.c (.str []))), (some (62, false))⟩, ⟨(some 65), (.pick (.t 62) (.c (.bool true)) (.t 64)), none⟩]) (.cond (.t 65) (.seq (.reg none [⟨(some 66), (.build [(20, (.blob (List.replicate 20 (.int .u8 0)))), (1, (.con (.slice none 0 0))), (1, (.str [])), (1, (.str [])), (1, (.int .i64 0)), (1, (.str [])), (1, (.str [])), (1, (.str [])), (1, (.int .i64 0)), (1, (.str [])), (1, (.con (.slice none 0 0))), (1, (.str []))] []), none⟩, ⟨none, (.st (.st 31) (.t 2) (.t 66)), none⟩, ⟨(some 3), (.mv (.c (.int .i64 4))), none⟩]) .ret) .skip)) (.seq (.reg none [⟨(some 67), (.ld (.st 31) (.t 5)), none⟩, ⟨none, (.st (.st 31) (.t 2) (.t 67)), none⟩, ⟨(some 3), (.mv (.c (.int .i64 0))), none⟩]) .ret)))))))
def c_cpar : ACode := (.seq (.reg none [⟨(some 2), (.new 34 [(20, (.blob (List.replicate 20 (.int .u8 0)))), (1, (.con (.slice none 0 0))), (1, (.str [])), (1, (.str [])), (1, (.int .i64 0)), (1, (.str [])), (1, (.str [])), (1, (.str [])), (1, (.int .i64 0)), (1, (.str [])), (1, (.con (.slice none 0 0))), (1, (.str []))]), none⟩, ⟨(some 3), (.mv (.c (.int .i64 0))), none⟩]) (.seq (.reg none [⟨(some 8), (.mv (.t 0)), none⟩, ⟨(some 9), (.toStr (.t 8)), none⟩, ⟨(some 10), (.build [(1, (.str [])), (1, (.bool false))] [(0, (1, (.t 9)))]), none⟩, ⟨(some 11), (.build [(1, (.str [])), (1, (.bool false))] [(0, (2, (.t 10)))]), none⟩, ⟨(some 12), (.box 107 2 (.t 11)), none⟩, ⟨(some 4), (.mv (.t 12)), none⟩]) (.seq (.reg none [⟨(some 13), (.mv (.t 4)), none⟩, ⟨(some 14), (.call 49 [(.t 13), (.c (.str [116, 114, 101, 101, 32]))]), none⟩, ⟨(some 15), (.build [(20, (.blob (List.replicate 20 (.int .u8 0)))), (1, (.con (.slice none 0 0))), (1, (.str [])), (1, (.str [])), (1, (.int .i64 0)), (1, (.str [])), (1, (.str [])), (1, (.str [])), (1, (.int .i64 0)), (1, (.str [])), (1, (.con (.slice none 0 0))), (1, (.str []))] [(0, (20, (.t 14)))]), none⟩, ⟨(some 5), (.new 34 [(20, (.blob (List.replicate 20 (.int .u8 0)))), (1, (.con (.slice none 0 0))), (1, (.str [])), (1, (.str [])), (1, (.int .i64 0)), (1, (.str [])), (1, (.str [])), (1, (.str [])), (1, (.int .i64 0)), (1, (.str [])), (1, (.con (.slice none 0 0))), (1, (.str []))]), none⟩, ⟨none, (.st (.st 31) (.t 5) (.t 15)), none⟩]) (.seq (.block 0 (.loop b_cpar_0)) t_cpar_0))))
def r_cpar : List ARes := [(.c 2 (.st 31)), (.t 3)]
theorem s_cpar : slimF Tryz.prog Tryz.f21 = some (c_cpar, r_cpar) := by kernel_rfl
def c_cpart : ACode := (.seq (.reg none [⟨(some 2), (.new 60 [(20, (.blob (List.replicate 20 (.int .u8 0)))), (1, (.int .i64 0)), (1, (.str [])), (1, (.str [])), (1, (.str [])), (1, (.int .i64 0)), (1, (.str [])), (1, (.str []))]), none⟩, ⟨(some 3), (.mv (.c (.int .i64 0))), none⟩]) (.seq (.reg none [⟨(some 7), (.mv (.t 0)), none⟩, ⟨(some 8), (.toStr (.t 7)), none⟩, ⟨(some 9), (.build [(1, (.str [])), (1, (.bool false))] [(0, (1, (.t 8)))]), none⟩, ⟨(some 10), (.build [(1, (.str [])), (1, (.bool false))] [(0, (2, (.t 9)))]), none⟩, ⟨(some 11), (.box 107 2 (.t 10)), none⟩, ⟨(some 4), (.mv (.t 11)), none⟩]) (.seq (.reg none [⟨(some 12), (.mv (.t 4)), none⟩, ⟨(some 13), (.call 49 [(.t 12), (.c (.str [111, 98, 106, 101, 99, 116, 32]))]), none⟩, ⟨(some 14), (.build [(20, (.blob (List.replicate 20 (.int .u8 0)))), (1, (.int .i64 0)), (1, (.str [])), (1, (.str [])), (1, (.str [])), (1, (.int .i64 0)), (1, (.str [])), (1, (.str []))] [(0, (20, (.t 13)))]), none⟩, ⟨(some 5), (.new 60 [(20, (.blob (List.replicate 20 (.int .u8 0)))), (1, (.int .i64 0)), (1, (.str [])), (1, (.str [])), (1, (.str [])), (1, (.int .i64 0)), (1, (.str [])), (1, (.str []))]), none⟩, ⟨none, (.st (.st 27) (.t 5) (.t 14)), none⟩]) (.seq (.reg none [⟨(some 15), (.mv (.t 4)), none⟩, ⟨(some 16), (.nck (.t 15)), none⟩, ⟨(some 17), (.fa 0 (.t 16)), none⟩, ⟨(some 18), (.call 53 [(.t 17), (.c (.str [116, 121, 112, 101, 32]))]), none⟩, ⟨(some 19), (.call 56 [(.t 18)]), none⟩, ⟨(some 20), (.fa 20 (.t 5)), none⟩, ⟨none, (.st (.one (.int .i64 0)) (.t 20) (.t 19)), none⟩]) (.seq (.reg none [⟨(some 21), (.mv (.t 4)), none⟩, ⟨(some 22), (.nck (.t 21)), none⟩, ⟨(some 23), (.fa 0 (.t 22)), none⟩, ⟨(some 24), (.call 53 [(.t 23), (.c (.str [116, 97, 103, 32]))]), none⟩, ⟨(some 25), (.fa 21 (.t 5)), none⟩, ⟨none, (.st (.one (.str [])) (.t 25) (.t 24)), none⟩]) (.seq (.reg none [⟨(some 26), (.mv (.t 4)), none⟩, ⟨(some 27), (.call 51 [(.t 26), (.c (.str [116, 97, 103, 103, 101, 114, 32]))]), none⟩, ⟨(some 28), (.fa 22 (.t 5)), none⟩, ⟨none, (.st (.st 4) (.t 28) (.t 27)), none⟩]) (.seq (.reg none [⟨(some 29), (.mv (.t 4)), none⟩, ⟨(some 30), (.nck (.t 29)), none⟩, ⟨(some 31), (.fa 0 (.t 30)), none⟩, ⟨(some 32), (.call 53 [(.t 31), (.c (.str []))]), none⟩, ⟨(some 6), (.mv (.t 32)), none⟩]) (.seq (.reg none [⟨(some 33), (.mv (.t 4)), none⟩, ⟨(some 34), (.nck (.t 33)), none⟩, ⟨(some 35), (.fa 0 (.t 34)), none⟩, ⟨(some 36), (.fa 0 (.t 35)), none⟩, ⟨(some 37), (.ld (.one (.str [])) (.t 36)), none⟩, ⟨(some 38), (.fa 26 (.t 5)), none⟩, ⟨none, (.st (.one (.str [])) (.t 38) (.t 37)), none⟩]) (.seq (.seq (.reg none [⟨(some 39), (.mv (.t 4)), none⟩, ⟨(some 40), (.nck (.t 39)), none⟩, ⟨(some 41), (.fa 0 (.t 40)), none⟩, ⟨(some 42), (.fa 1 (.t 41)), none⟩, ⟨(some 43), (.ld (.one (.bool false)) (.t 42)), none⟩, ⟨(some 44), (.mv (.t 43)), none⟩, ⟨(some 45), (.fa 20 (.t 5)), (some (44, false))⟩, ⟨(some 46), (.ld (.one (.int .i64 0)) (.t 45)), (some (44, false))⟩, ⟨(some 47), (.bin .eql (.t 46) (.c (.int .i64 0))), (some (44, false))⟩, ⟨(some 48), (.pick (.t 44) (.c (.bool true)) (.t 47)), none⟩, ⟨(some 49), (.mv (.t 48)), none⟩, ⟨(some 50), (.fa 21 (.t 5)), (some (49, false))⟩, ⟨(some 51), (.ld (.one (.str [])) (.t 50)), (some (49, false))⟩, ⟨(some 52), (.bin .eql (.t 51) (.c (.str []))), (some (49, false))⟩, ⟨(some 53), (.pick (.t 49) (.c (.bool true)) (.t 52)), none⟩, ⟨(some 54), (.mv (.t 53)), none⟩, ⟨(some 55), (.mv (.t 6)), (some (54, false))⟩, ⟨(some 56), (.bin .neq (.t 55) (.c (.str []))), (some (54, false))⟩, ⟨(some 57), (.pick (.t 54) (.c (.bool true)) (.t 56)), none⟩]) (.cond (.t 57) (.seq (.reg none [⟨(some 58), (.build [(20, (.blob (List.replicate 20 (.int .u8 0)))), (1, (.int .i64 0)), (1, (.str [])), (1, (.str [])), (1, (.str [])), (1, (.int .i64 0)), (1, (.str [])), (1, (.str []))] []), none⟩, ⟨none, (.st (.st 27) (.t 2) (.t 58)), none⟩, ⟨(some 3), (.mv (.c (.int .i64 4))), none⟩]) .ret) .skip)) (.seq (.reg none [⟨(some 59), (.ld (.st 27) (.t 5)), none⟩, ⟨none, (.st (.st 27) (.t 2) (.t 59)), none⟩, ⟨(some 3), (.mv (.c (.int .i64 0))), none⟩]) .ret))))))))))
def r_cpart : List ARes := [(.c 2 (.st 27)), (.t 3)]
theorem s_cpart : slimF Tryz.prog Tryz.f23 = some (c_cpart, r_cpart) := by kernel_rfl
end Go.Proofs.YtlkaaoekbmegkaaGreatDoor
