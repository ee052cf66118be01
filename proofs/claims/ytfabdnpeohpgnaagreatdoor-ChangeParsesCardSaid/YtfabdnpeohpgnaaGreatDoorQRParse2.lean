import Derived.Test.YtfabdnpeohpgnaaGreatDoorQT2h
import Derived.Test.YtfabdnpeohpgnaaGreatDoorQFNRight
import Derived.Lib.SplitLaws
import Derived.Lib.IndexAny
import Derived.Lib.IndexMore
import Derived.Test.YtfabdnpeohpgnaaGreatDoorQShelf
import Derived.Lib.IndexBytes
import Derived.Lib.CountLaws
import Derived.Lib.Replace
import Derived.Test.YtfabdnpeohpgnaaGreatDoorQFGrow
namespace Go.Proofs.YtfabdnpeohpgnaaGreatDoor
set_option linter.all false
open Go.RowKit
def goodP (l : List UInt8) : Bool := decide (l.length = 40) && (List.range 20).all fun i => decide (okP l i)
def rOut (l : List UInt8) : List UInt8 := if goodP l = true then (List.range 20).map (fun j => UInt8.ofNat (valP l j)) else List.replicate 20 0
theorem valP_lt (l : List UInt8) (j : Nat) : valP l j < 256 := by
  have b1 := dv_lt (l.getD (2 * j) 0)
  have b2 := dv_lt (l.getD (2 * j + 1) 0)
  unfold valP; omega
theorem rOut_U (l : List UInt8) : (rOut l).map U = if goodP l = true then idV l 20 else List.replicate 20 (.int .u8 0) := by
  unfold rOut
  split
  · unfold idV
    rw [List.map_map, Nat.sub_self, List.replicate_zero, List.append_nil]
    refine List.map_congr_left fun j _ => ?_
    have := valP_lt l j
    show Value.int .u8 ((UInt8.ofNat (valP l j)).toNat : Int) = _
    rw [UInt8.toNat_ofNat', Nat.mod_eq_of_lt this]
  · rfl
def rparseS : Spec := fun xs hp => match xs, hp with
  | [.str l], [] => some ⟨.tup [.blob ((rOut l).map U), .bool (goodP l)], [], l.length ≤ 1000000000⟩
  | _, _ => none
theorem idW_zero (l : List UInt8) (i : Nat) (h : i < 20) : idW l i 0 = idV l i := by
  unfold idW idV
  rw [if_neg (by omega), show 20 - i = (19 - i) + 1 by omega, List.replicate_succ]
  simp
def stQ (l : List UInt8) (i : Nat) : St := ⟨[(0, .str l), (2, .ref 0 0 0), (3, .bool false), (4, .ref 1 0 0), (5, .int .i64 (i : Int))], [.cells 22 [(20, .blob (List.replicate 20 (.int .u8 0)))], .cells 22 [(20, .blob (idV l i))]]⟩
theorem rprs_round (l : List UInt8) (i : Nat) (K : St → Prop) (R : Ret) (hl : l.length = 40) (hi : i < 20) (hR : ¬ okP l i → R = ⟨.tup [.blob (List.replicate 20 (.int .u8 0)), .bool false], [], R.pre⟩)
    (hK : okP l i → ∀ s', kp [0, 2, 3, 4, 5] 2 s' = some (stQ l (i + 1)) → K s') : awp phiD 0 b_rprs_1 (thenQ K (inQ 0 (thenQ (awp phiD 0 t_rprs_2 (retQ r_rprs 0 R)) (retQ r_rprs 0 R)))) (stQ l i) := by
  generalize hQ2 : thenQ (awp phiD 0 t_rprs_2 (retQ r_rprs 0 R)) (retQ r_rprs 0 R) = Q2
  have hret : ∀ s, Q2 .ret s = finP 0 R s (aret s r_rprs) := by intro s; subst hQ2; rfl
  simp only [b_rprs_1, stQ, awp_scope, noG_n, noG_r, noG_x, awp_skip, awp_reg, awp_draw, awp_seq, awp_cond, awp_block, awp_loop, awp_exit, awp_ret, arun_nil, arun_op, arun_gt, arun_gf, arunD_nil, arunD_op, arunD_gt, arunD_gf, aq_some, isB_t, isB_u, isB_f, isB_g, isB_p, isU_t, isU_b, ifB_t, ifB_f, thenQ_n, thenQ_x, thenQ_r, inQ_n, inQ_r, inQ_x, retQ_n, retQ_r, exD, AOp.isH, keepN, preB, avalP, pureR, astep, stV, stN, stE, stC, aval, anew, aElems, frzS, frzH, aeff, slots, aret, ares, aress, AV.isTup, eqFs, aEqS, ofC_i, ofC_b, ofC_s, ofC_U, getD_mapU, getD_Bs, Bs_len, Int.toNat_natCast, opd, pt, tk, subp, rdP, Rt.size, Rt.isAgg, Rt.zv, aBin, aInt, aStr, arI, aUn, aToInt, aToStr, aIdxS, zv, aIdxA, aIa, aIaA, aFa, aLd, aFld, pparts, aLo, aHi, cutL, aSlS, aSl, aExt, aNck, aNilc, AV.isStr, aLen, AV.one, AV.multi, pureB, szOk, psz, drp, spl, aEqB, aEqA, aMm, aMkfn, aMkif, aBuild, toV, aBuildA, wrP, unparts, view, nilS, St.ev, lk, St.put, St.pin, St.pinV, acall0, acall1, acall2, acall3, bor, bor0, bor1, phiL_nil, phiL_at, tau, lentO, okIds, flatC, flatB, flatOs, flatO, flatPs, place, setAll_nil, setAll_cons, nodupB, renObj, closeIds, addNew, idsOf, idsObj, posOf, lenOk_0, lenOk_1, lenOk_2, lenOk_3, lenOk_4, lenOk_8, ↓reduceIte, Option.isSome_none, Option.isSome_some, Bool.or_true, Bool.true_or,  Nat.reduceEqDiff, Nat.reduceBEq, Nat.reduceSub, Nat.reduceLT, beq_self_eq_true, List.map, List.set, List.map_cons, List.map_nil, List.flatMap_cons, List.flatMap_nil, List.flatten_cons, List.flatten_nil, true_and, and_true, List.length_cons, List.length_nil, Nat.reduceAdd, Nat.reduceLeDiff, List.nil_append, List.cons_append, List.append_nil, Option.map, mapO, ren, kp, kpI, ent, nilG, Option.bind, List.range, List.range.loop, List.getElem?_cons_zero, List.getElem?_cons_succ, List.getElem?_nil, List.getD_cons_zero, List.getD_cons_succ, List.drop_zero, List.drop_succ_cons, List.drop_nil, List.take_zero, List.take_succ_cons, List.all_cons, List.all_nil, List.isEmpty_nil, List.isEmpty_cons, Bool.and_true, Bool.true_and, Bool.not_true, Bool.not_false, List.contains_nil, reduceCtorEq, List.contains_cons, Bool.or_false, Bool.false_or, eq_self, forall_const, false_implies, Bool.false_eq_true, Nat.le_refl, List.length_map, List.length_set, List.length_replicate, and_self, implies_true]
  refine ⟨fun _ => ?_, fun hf => absurd (of_decide_eq_false hf) (by omega)⟩
  refine loop_at [] [0, 2, 3, 4, 5, 6, 7] [0, 1] (fun n : Nat => stP l i n) (fun n => n ≤ 256) (fun n => 256 - n) 0
    (by simp only [stP, idW_zero l i hi, awp_scope, noG_n, noG_r, noG_x, awp_skip, awp_reg, awp_draw, awp_seq, awp_cond, awp_block, awp_loop, awp_exit, awp_ret, arun_nil, arun_op, arun_gt, arun_gf, arunD_nil, arunD_op, arunD_gt, arunD_gf, aq_some, isB_t, isB_u, isB_f, isB_g, isB_p, isU_t, isU_b, ifB_t, ifB_f, thenQ_n, thenQ_x, thenQ_r, inQ_n, inQ_r, inQ_x, retQ_n, retQ_r, exD, AOp.isH, keepN, preB, avalP, pureR, astep, stV, stN, stE, stC, aval, anew, aElems, frzS, frzH, aeff, slots, aret, ares, aress, AV.isTup, eqFs, aEqS, ofC_i, ofC_b, ofC_s, ofC_U, getD_mapU, getD_Bs, Bs_len, Int.toNat_natCast, opd, pt, tk, subp, rdP, Rt.size, Rt.isAgg, Rt.zv, aBin, aInt, aStr, arI, aUn, aToInt, aToStr, aIdxS, zv, aIdxA, aIa, aIaA, aFa, aLd, aFld, pparts, aLo, aHi, cutL, aSlS, aSl, aExt, aNck, aNilc, AV.isStr, aLen, AV.one, AV.multi, pureB, szOk, psz, drp, spl, aEqB, aEqA, aMm, aMkfn, aMkif, aBuild, toV, aBuildA, wrP, unparts, view, nilS, St.ev, lk, St.put, St.pin, St.pinV, acall0, acall1, acall2, acall3, bor, bor0, bor1, phiL_nil, phiL_at, tau, lentO, okIds, flatC, flatB, flatOs, flatO, flatPs, place, setAll_nil, setAll_cons, nodupB, renObj, closeIds, addNew, idsOf, idsObj, posOf, lenOk_0, lenOk_1, lenOk_2, lenOk_3, lenOk_4, lenOk_8, ↓reduceIte, Option.isSome_none, Option.isSome_some, Bool.or_true, Bool.true_or,  Nat.reduceEqDiff, Nat.reduceBEq, Nat.reduceSub, Nat.reduceLT, beq_self_eq_true, List.map, List.set, List.map_cons, List.map_nil, List.flatMap_cons, List.flatMap_nil, List.flatten_cons, List.flatten_nil, true_and, and_true, List.length_cons, List.length_nil, Nat.reduceAdd, Nat.reduceLeDiff, List.nil_append, List.cons_append, List.append_nil, Option.map, mapO, ren, kp, kpI, ent, nilG, Option.bind, List.range, List.range.loop, List.getElem?_cons_zero, List.getElem?_cons_succ, List.getElem?_nil, List.getD_cons_zero, List.getD_cons_succ, List.drop_zero, List.drop_succ_cons, List.drop_nil, List.take_zero, List.take_succ_cons, List.all_cons, List.all_nil, List.isEmpty_nil, List.isEmpty_cons, Bool.and_true, Bool.true_and, Bool.not_true, Bool.not_false, List.contains_nil, reduceCtorEq, List.contains_cons, Bool.or_false, Bool.false_or, eq_self, forall_const, false_implies, Bool.false_eq_true, Nat.le_refl, List.length_map, List.length_set, List.length_replicate, and_self, implies_true]; simp) (by omega) ⟨rfl, rfl⟩ (fun n hn => ?_)
  by_cases hlt : n < 256
  · exact rparse_in l i n _ _ hl hi hlt fun s' hs' => ⟨n + 1, by omega, by omega, hs'⟩
  · have hn : n = 256 := by omega
    subst hn
    have hf : decide (((256 : Nat) : Int) < 256) = false := rfl
    simp only [b_rprs_0, t_rprs_0, t_rprs_1, stP, hf, hret, r_rprs, awp_scope, noG_n, noG_r, noG_x, awp_skip, awp_reg, awp_draw, awp_seq, awp_cond, awp_block, awp_loop, awp_exit, awp_ret, arun_nil, arun_op, arun_gt, arun_gf, arunD_nil, arunD_op, arunD_gt, arunD_gf, aq_some, isB_t, isB_u, isB_f, isB_g, isB_p, isU_t, isU_b, ifB_t, ifB_f, thenQ_n, thenQ_x, thenQ_r, inQ_n, inQ_r, inQ_x, retQ_n, retQ_r, exD, AOp.isH, keepN, preB, avalP, pureR, astep, stV, stN, stE, stC, aval, anew, aElems, frzS, frzH, aeff, slots, aret, ares, aress, AV.isTup, eqFs, aEqS, ofC_i, ofC_b, ofC_s, ofC_U, getD_mapU, getD_Bs, Bs_len, Int.toNat_natCast, opd, pt, tk, subp, rdP, Rt.size, Rt.isAgg, Rt.zv, aBin, aInt, aStr, arI, aUn, aToInt, aToStr, aIdxS, zv, aIdxA, aIa, aIaA, aFa, aLd, aFld, pparts, aLo, aHi, cutL, aSlS, aSl, aExt, aNck, aNilc, AV.isStr, aLen, AV.one, AV.multi, pureB, szOk, psz, drp, spl, aEqB, aEqA, aMm, aMkfn, aMkif, aBuild, toV, aBuildA, wrP, unparts, view, nilS, St.ev, lk, St.put, St.pin, St.pinV, acall0, acall1, acall2, acall3, bor, bor0, bor1, phiL_nil, phiL_at, tau, lentO, okIds, flatC, flatB, flatOs, flatO, flatPs, place, setAll_nil, setAll_cons, nodupB, renObj, closeIds, addNew, idsOf, idsObj, posOf, lenOk_0, lenOk_1, lenOk_2, lenOk_3, lenOk_4, lenOk_8, ↓reduceIte, Option.isSome_none, Option.isSome_some, Bool.or_true, Bool.true_or,  Nat.reduceEqDiff, Nat.reduceBEq, Nat.reduceSub, Nat.reduceLT, beq_self_eq_true, List.map, List.set, List.map_cons, List.map_nil, List.flatMap_cons, List.flatMap_nil, List.flatten_cons, List.flatten_nil, true_and, and_true, List.length_cons, List.length_nil, Nat.reduceAdd, Nat.reduceLeDiff, List.nil_append, List.cons_append, List.append_nil, Option.map, mapO, ren, kp, kpI, ent, nilG, Option.bind, List.range, List.range.loop, List.getElem?_cons_zero, List.getElem?_cons_succ, List.getElem?_nil, List.getD_cons_zero, List.getD_cons_succ, List.drop_zero, List.drop_succ_cons, List.drop_nil, List.take_zero, List.take_succ_cons, List.all_cons, List.all_nil, List.isEmpty_nil, List.isEmpty_cons, Bool.and_true, Bool.true_and, Bool.not_true, Bool.not_false, List.contains_nil, reduceCtorEq, List.contains_cons, Bool.or_false, Bool.false_or, eq_self, forall_const, false_implies, Bool.false_eq_true, Nat.le_refl, List.length_map, List.length_set, List.length_replicate, and_self, implies_true]
    have hv : valP l i < 256 := by
      have b1 := dv_lt (l.getD (2 * i) 0)
      have b2 := dv_lt (l.getD (2 * i + 1) 0)
      unfold valP; omega
    by_cases hok : okP l i
    · have hd : decide (okP l i ∧ valP l i < 256) = true := decide_eq_true ⟨hok, hv⟩
      rw [hd]
      refine ⟨fun h => absurd h (by simp), fun _ => ⟨by simp only [inI]; omega, hK hok _ ?_⟩⟩
      simp only [stQ, awp_scope, noG_n, noG_r, noG_x, awp_skip, awp_reg, awp_draw, awp_seq, awp_cond, awp_block, awp_loop, awp_exit, awp_ret, arun_nil, arun_op, arun_gt, arun_gf, arunD_nil, arunD_op, arunD_gt, arunD_gf, aq_some, isB_t, isB_u, isB_f, isB_g, isB_p, isU_t, isU_b, ifB_t, ifB_f, thenQ_n, thenQ_x, thenQ_r, inQ_n, inQ_r, inQ_x, retQ_n, retQ_r, exD, AOp.isH, keepN, preB, avalP, pureR, astep, stV, stN, stE, stC, aval, anew, aElems, frzS, frzH, aeff, slots, aret, ares, aress, AV.isTup, eqFs, aEqS, ofC_i, ofC_b, ofC_s, ofC_U, getD_mapU, getD_Bs, Bs_len, Int.toNat_natCast, opd, pt, tk, subp, rdP, Rt.size, Rt.isAgg, Rt.zv, aBin, aInt, aStr, arI, aUn, aToInt, aToStr, aIdxS, zv, aIdxA, aIa, aIaA, aFa, aLd, aFld, pparts, aLo, aHi, cutL, aSlS, aSl, aExt, aNck, aNilc, AV.isStr, aLen, AV.one, AV.multi, pureB, szOk, psz, drp, spl, aEqB, aEqA, aMm, aMkfn, aMkif, aBuild, toV, aBuildA, wrP, unparts, view, nilS, St.ev, lk, St.put, St.pin, St.pinV, acall0, acall1, acall2, acall3, bor, bor0, bor1, phiL_nil, phiL_at, tau, lentO, okIds, flatC, flatB, flatOs, flatO, flatPs, place, setAll_nil, setAll_cons, nodupB, renObj, closeIds, addNew, idsOf, idsObj, posOf, lenOk_0, lenOk_1, lenOk_2, lenOk_3, lenOk_4, lenOk_8, ↓reduceIte, Option.isSome_none, Option.isSome_some, Bool.or_true, Bool.true_or,  Nat.reduceEqDiff, Nat.reduceBEq, Nat.reduceSub, Nat.reduceLT, beq_self_eq_true, List.map, List.set, List.map_cons, List.map_nil, List.flatMap_cons, List.flatMap_nil, List.flatten_cons, List.flatten_nil, true_and, and_true, List.length_cons, List.length_nil, Nat.reduceAdd, Nat.reduceLeDiff, List.nil_append, List.cons_append, List.append_nil, Option.map, mapO, ren, kp, kpI, ent, nilG, Option.bind, List.range, List.range.loop, List.getElem?_cons_zero, List.getElem?_cons_succ, List.getElem?_nil, List.getD_cons_zero, List.getD_cons_succ, List.drop_zero, List.drop_succ_cons, List.drop_nil, List.take_zero, List.take_succ_cons, List.all_cons, List.all_nil, List.isEmpty_nil, List.isEmpty_cons, Bool.and_true, Bool.true_and, Bool.not_true, Bool.not_false, List.contains_nil, reduceCtorEq, List.contains_cons, Bool.or_false, Bool.false_or, eq_self, forall_const, false_implies, Bool.false_eq_true, Nat.le_refl, List.length_map, List.length_set, List.length_replicate, and_self, implies_true]
      have hw : idW l i 256 = idV l (i + 1) := by
        unfold idW idV
        rw [if_pos ⟨hok, hv⟩, List.range_succ, List.map_append, show 20 - (i + 1) = 19 - i by omega]
        rfl
      rw [hw]
      rfl
    · have hd : decide (okP l i ∧ valP l i < 256) = false := decide_eq_false fun h => hok h.1
      rw [hd]
      refine ⟨fun _ => ?_, fun h => absurd h (by simp)⟩
      rw [hR hok]
      simp only [Bool.false_eq_true, renObj, finP, finI, closeIds, addNew, idsOf, List.flatMap_nil, List.flatMap_cons, List.append_nil, List.nil_append, List.take_zero, nodupB, posOf, idsObj, List.getD_cons_zero, List.getD_cons_succ, List.range, List.range.loop, ren, lentO, mapO, Option.map, ↓reduceIte, Nat.reduceEqDiff, true_and, and_true, List.getElem?_cons_zero, List.getElem?_cons_succ, Nat.reduceAdd, List.contains_nil, Bool.not_false, Bool.and_true, List.map_nil, List.map_cons, List.take_succ_cons]
theorem rparse_ok : FnOk Tryz.prog 30 rparseS := by
  refine fn_slim Tryz.func30 s_rprs (Φ := phiD) (phi_cons digit_ok (by kernel_rfl) phi_nil) ?_
  intro xs hp r hs hp'
  unfold rparseS at hs
  split at hs
  · injection hs with hs; subst hs
    rename_i l
    refine ⟨len_le (by kernel_rfl), ?_⟩
    have p1 : l.length ≤ 1000000000 := hp'
    clear hp'
    rw [rOut_U]
    obtain ⟨R, hR⟩ : ∃ R, R = Ret.mk (.tup [.blob (if goodP l = true then idV l 20 else List.replicate 20 (.int .u8 0)), .bool (goodP l)]) [] (l.length ≤ 1000000000) := ⟨_, rfl⟩
    rw [← hR]
    simp only [c_rprs, awp_scope, noG_n, noG_r, noG_x, awp_skip, awp_reg, awp_draw, awp_seq, awp_cond, awp_block, awp_loop, awp_exit, awp_ret, arun_nil, arun_op, arun_gt, arun_gf, arunD_nil, arunD_op, arunD_gt, arunD_gf, aq_some, isB_t, isB_u, isB_f, isB_g, isB_p, isU_t, isU_b, ifB_t, ifB_f, thenQ_n, thenQ_x, thenQ_r, inQ_n, inQ_r, inQ_x, retQ_n, retQ_r, exD, AOp.isH, keepN, preB, avalP, pureR, astep, stV, stN, stE, stC, aval, anew, aElems, frzS, frzH, aeff, slots, aret, ares, aress, AV.isTup, eqFs, aEqS, ofC_i, ofC_b, ofC_s, ofC_U, getD_mapU, getD_Bs, Bs_len, Int.toNat_natCast, opd, pt, tk, subp, rdP, Rt.size, Rt.isAgg, Rt.zv, aBin, aInt, aStr, arI, aUn, aToInt, aToStr, aIdxS, zv, aIdxA, aIa, aIaA, aFa, aLd, aFld, pparts, aLo, aHi, cutL, aSlS, aSl, aExt, aNck, aNilc, AV.isStr, aLen, AV.one, AV.multi, pureB, szOk, psz, drp, spl, aEqB, aEqA, aMm, aMkfn, aMkif, aBuild, toV, aBuildA, wrP, unparts, view, nilS, St.ev, lk, St.put, St.pin, St.pinV, acall0, acall1, acall2, acall3, bor, bor0, bor1, phiL_nil, phiL_at, tau, lentO, okIds, flatC, flatB, flatOs, flatO, flatPs, place, setAll_nil, setAll_cons, nodupB, renObj, closeIds, addNew, idsOf, idsObj, posOf, lenOk_0, lenOk_1, lenOk_2, lenOk_3, lenOk_4, lenOk_8, ↓reduceIte, Option.isSome_none, Option.isSome_some, Bool.or_true, Bool.true_or,  Nat.reduceEqDiff, Nat.reduceBEq, Nat.reduceSub, Nat.reduceLT, beq_self_eq_true, List.map, List.set, List.map_cons, List.map_nil, List.flatMap_cons, List.flatMap_nil, List.flatten_cons, List.flatten_nil, true_and, and_true, List.length_cons, List.length_nil, Nat.reduceAdd, Nat.reduceLeDiff, List.nil_append, List.cons_append, List.append_nil, Option.map, mapO, ren, kp, kpI, ent, nilG, Option.bind, List.range, List.range.loop, List.getElem?_cons_zero, List.getElem?_cons_succ, List.getElem?_nil, List.getD_cons_zero, List.getD_cons_succ, List.drop_zero, List.drop_succ_cons, List.drop_nil, List.take_zero, List.take_succ_cons, List.all_cons, List.all_nil, List.isEmpty_nil, List.isEmpty_cons, Bool.and_true, Bool.true_and, Bool.not_true, Bool.not_false, List.contains_nil, reduceCtorEq, List.contains_cons, Bool.or_false, Bool.false_or, eq_self, forall_const, false_implies, Bool.false_eq_true, Nat.le_refl, List.length_map, List.length_set, List.length_replicate, and_self, implies_true]
    refine ⟨fun hc => ?_, fun hc => ?_⟩
    · have hl : l.length ≠ 40 := by intro h; rw [h] at hc; simp at hc
      have hg : goodP l = false := by unfold goodP; simp [hl]
      simp only [hR, hg, r_rprs, awp_scope, noG_n, noG_r, noG_x, awp_skip, awp_reg, awp_draw, awp_seq, awp_cond, awp_block, awp_loop, awp_exit, awp_ret, arun_nil, arun_op, arun_gt, arun_gf, arunD_nil, arunD_op, arunD_gt, arunD_gf, aq_some, isB_t, isB_u, isB_f, isB_g, isB_p, isU_t, isU_b, ifB_t, ifB_f, thenQ_n, thenQ_x, thenQ_r, inQ_n, inQ_r, inQ_x, retQ_n, retQ_r, exD, AOp.isH, keepN, preB, avalP, pureR, astep, stV, stN, stE, stC, aval, anew, aElems, frzS, frzH, aeff, slots, aret, ares, aress, AV.isTup, eqFs, aEqS, ofC_i, ofC_b, ofC_s, ofC_U, getD_mapU, getD_Bs, Bs_len, Int.toNat_natCast, opd, pt, tk, subp, rdP, Rt.size, Rt.isAgg, Rt.zv, aBin, aInt, aStr, arI, aUn, aToInt, aToStr, aIdxS, zv, aIdxA, aIa, aIaA, aFa, aLd, aFld, pparts, aLo, aHi, cutL, aSlS, aSl, aExt, aNck, aNilc, AV.isStr, aLen, AV.one, AV.multi, pureB, szOk, psz, drp, spl, aEqB, aEqA, aMm, aMkfn, aMkif, aBuild, toV, aBuildA, wrP, unparts, view, nilS, St.ev, lk, St.put, St.pin, St.pinV, acall0, acall1, acall2, acall3, bor, bor0, bor1, phiL_nil, phiL_at, tau, lentO, okIds, flatC, flatB, flatOs, flatO, flatPs, place, setAll_nil, setAll_cons, nodupB, renObj, closeIds, addNew, idsOf, idsObj, posOf, lenOk_0, lenOk_1, lenOk_2, lenOk_3, lenOk_4, lenOk_8, ↓reduceIte, Option.isSome_none, Option.isSome_some, Bool.or_true, Bool.true_or,  Nat.reduceEqDiff, Nat.reduceBEq, Nat.reduceSub, Nat.reduceLT, beq_self_eq_true, List.map, List.set, List.map_cons, List.map_nil, List.flatMap_cons, List.flatMap_nil, List.flatten_cons, List.flatten_nil, true_and, and_true, List.length_cons, List.length_nil, Nat.reduceAdd, Nat.reduceLeDiff, List.nil_append, List.cons_append, List.append_nil, Option.map, mapO, ren, kp, kpI, ent, nilG, Option.bind, List.range, List.range.loop, List.getElem?_cons_zero, List.getElem?_cons_succ, List.getElem?_nil, List.getD_cons_zero, List.getD_cons_succ, List.drop_zero, List.drop_succ_cons, List.drop_nil, List.take_zero, List.take_succ_cons, List.all_cons, List.all_nil, List.isEmpty_nil, List.isEmpty_cons, Bool.and_true, Bool.true_and, Bool.not_true, Bool.not_false, List.contains_nil, reduceCtorEq, List.contains_cons, Bool.or_false, Bool.false_or, eq_self, forall_const, false_implies, Bool.false_eq_true, Nat.le_refl, List.length_map, List.length_set, List.length_replicate, and_self, implies_true]
      simp only [Bool.false_eq_true, renObj, finP, finI, closeIds, addNew, idsOf, List.flatMap_nil, List.flatMap_cons, List.append_nil, List.nil_append, List.take_zero, nodupB, posOf, idsObj, List.getD_cons_zero, List.getD_cons_succ, List.range, List.range.loop, ren, lentO, mapO, Option.map, ↓reduceIte, Nat.reduceEqDiff, true_and, and_true, List.getElem?_cons_zero, List.getElem?_cons_succ, Nat.reduceAdd, List.contains_nil, Bool.not_false, Bool.and_true, List.map_nil, List.map_cons, List.take_succ_cons]
    · have hl : l.length = 40 := by
        have : ¬ ¬ ((l.length : Int) = 40) := by simpa using hc
        omega
      clear hc
      refine loop_at [] [0, 2, 3, 4, 5] [0, 1] (fun i : Nat => stQ l i) (fun i => i ≤ 20 ∧ ∀ j, j < i → okP l j) (fun i => 20 - i) 0
        rfl ⟨by omega, fun j hj => by omega⟩ ⟨rfl, rfl⟩ (fun i hi => ?_)
      obtain ⟨hi20, hal⟩ := hi
      by_cases hlt : i < 20
      · refine rprs_round l i _ R hl hlt (fun hno => ?_) fun hok s' hs' => ⟨i + 1, ⟨by omega, fun j hj => ?_⟩, by omega, hs'⟩
        · have hg : goodP l = false := by
            cases h : goodP l with
            | false => rfl
            | true =>
              unfold goodP at h
              simp only [Bool.and_eq_true, List.all_eq_true, decide_eq_true_eq] at h
              exact absurd (h.2 i (List.mem_range.2 hlt)) hno
          rw [hR, hg]; rfl
        · rcases Nat.lt_or_ge j i with h | h
          · exact hal j h
          · rw [show j = i by omega]; exact hok
      · have hi : i = 20 := by omega
        subst hi
        have hg : goodP l = true := by
          unfold goodP
          simp only [Bool.and_eq_true, List.all_eq_true, decide_eq_true_eq]
          exact ⟨hl, fun j hj => hal j (List.mem_range.1 hj)⟩
        have hf : decide (((20 : Nat) : Int) < 20) = false := rfl
        simp only [b_rprs_1, t_rprs_2, stQ, hf, r_rprs, hR, hg, awp_scope, noG_n, noG_r, noG_x, awp_skip, awp_reg, awp_draw, awp_seq, awp_cond, awp_block, awp_loop, awp_exit, awp_ret, arun_nil, arun_op, arun_gt, arun_gf, arunD_nil, arunD_op, arunD_gt, arunD_gf, aq_some, isB_t, isB_u, isB_f, isB_g, isB_p, isU_t, isU_b, ifB_t, ifB_f, thenQ_n, thenQ_x, thenQ_r, inQ_n, inQ_r, inQ_x, retQ_n, retQ_r, exD, AOp.isH, keepN, preB, avalP, pureR, astep, stV, stN, stE, stC, aval, anew, aElems, frzS, frzH, aeff, slots, aret, ares, aress, AV.isTup, eqFs, aEqS, ofC_i, ofC_b, ofC_s, ofC_U, getD_mapU, getD_Bs, Bs_len, Int.toNat_natCast, opd, pt, tk, subp, rdP, Rt.size, Rt.isAgg, Rt.zv, aBin, aInt, aStr, arI, aUn, aToInt, aToStr, aIdxS, zv, aIdxA, aIa, aIaA, aFa, aLd, aFld, pparts, aLo, aHi, cutL, aSlS, aSl, aExt, aNck, aNilc, AV.isStr, aLen, AV.one, AV.multi, pureB, szOk, psz, drp, spl, aEqB, aEqA, aMm, aMkfn, aMkif, aBuild, toV, aBuildA, wrP, unparts, view, nilS, St.ev, lk, St.put, St.pin, St.pinV, acall0, acall1, acall2, acall3, bor, bor0, bor1, phiL_nil, phiL_at, tau, lentO, okIds, flatC, flatB, flatOs, flatO, flatPs, place, setAll_nil, setAll_cons, nodupB, renObj, closeIds, addNew, idsOf, idsObj, posOf, lenOk_0, lenOk_1, lenOk_2, lenOk_3, lenOk_4, lenOk_8, ↓reduceIte, Option.isSome_none, Option.isSome_some, Bool.or_true, Bool.true_or,  Nat.reduceEqDiff, Nat.reduceBEq, Nat.reduceSub, Nat.reduceLT, beq_self_eq_true, List.map, List.set, List.map_cons, List.map_nil, List.flatMap_cons, List.flatMap_nil, List.flatten_cons, List.flatten_nil, true_and, and_true, List.length_cons, List.length_nil, Nat.reduceAdd, Nat.reduceLeDiff, List.nil_append, List.cons_append, List.append_nil, Option.map, mapO, ren, kp, kpI, ent, nilG, Option.bind, List.range, List.range.loop, List.getElem?_cons_zero, List.getElem?_cons_succ, List.getElem?_nil, List.getD_cons_zero, List.getD_cons_succ, List.drop_zero, List.drop_succ_cons, List.drop_nil, List.take_zero, List.take_succ_cons, List.all_cons, List.all_nil, List.isEmpty_nil, List.isEmpty_cons, Bool.and_true, Bool.true_and, Bool.not_true, Bool.not_false, List.contains_nil, reduceCtorEq, List.contains_cons, Bool.or_false, Bool.false_or, eq_self, forall_const, false_implies, Bool.false_eq_true, Nat.le_refl, List.length_map, List.length_set, List.length_replicate, and_self, implies_true]
        refine ⟨by simp [idV], ?_⟩
        simp only [Bool.false_eq_true, renObj, finP, finI, closeIds, addNew, idsOf, List.flatMap_nil, List.flatMap_cons, List.append_nil, List.nil_append, List.take_zero, nodupB, posOf, idsObj, List.getD_cons_zero, List.getD_cons_succ, List.range, List.range.loop, ren, lentO, mapO, Option.map, ↓reduceIte, Nat.reduceEqDiff, true_and, and_true, List.getElem?_cons_zero, List.getElem?_cons_succ, Nat.reduceAdd, List.contains_nil, Bool.not_false, Bool.and_true, List.map_nil, List.map_cons, List.take_succ_cons]
  · cases hs
end Go.Proofs.YtfabdnpeohpgnaaGreatDoor
namespace Go.Proofs.YtfabdnpeohpgnaaGreatDoor
set_option linter.all false
open Go.RowKit
theorem goodQ_iff (l : List UInt8) : goodQ l = true ↔ l.length = 40 ∧ ∀ c ∈ l, 0 ≤ dv c := by unfold goodQ; simp
theorem goodP_eq (l : List UInt8) : goodP l = goodQ l := by
  rw [Bool.eq_iff_iff, goodQ_iff]
  unfold goodP
  simp only [Bool.and_eq_true, List.all_eq_true, decide_eq_true_eq, List.mem_range]
  constructor
  · rintro ⟨h1, h2⟩
    refine ⟨h1, fun c hc => ?_⟩
    obtain ⟨n, hn, rfl⟩ := List.getElem_of_mem hc
    have h3 := h2 (n / 2) (by omega)
    have e : ∀ k, k < l.length → l.getD k 0 = l.getD k 0 := fun _ _ => rfl
    have hg : l.getD n 0 = l[n] := by rw [List.getD_eq_getElem?_getD, List.getElem?_eq_getElem hn]; rfl
    rcases (show n = 2 * (n / 2) ∨ n = 2 * (n / 2) + 1 by omega) with e | e
    · have := h3.1; rw [← e, hg] at this; exact this
    · have := h3.2; rw [← e, hg] at this; exact this
  · rintro ⟨h1, h2⟩
    have hat : ∀ n, n < 40 → 0 ≤ dv (l.getD n 0) := fun n hn => h2 _ (by rw [List.getD_eq_getElem?_getD, List.getElem?_eq_getElem (by omega)]; exact List.getElem_mem _)
    exact ⟨h1, fun x hx => ⟨hat _ (by omega), hat _ (by omega)⟩⟩
theorem rOut_eq (l : List UInt8) : rOut l = pOut l := by
  unfold rOut pOut
  rw [goodP_eq]
  split
  · unfold outL
    refine List.map_congr_left fun j hj => ?_
    have := List.mem_range.1 hj
    unfold outN valP
    rw [if_pos (by omega)]
  · rfl
theorem pOut_len (l : List UInt8) : (pOut l).length = 20 := by
  unfold pOut
  split
  · exact outL_length _ _
  · simp
theorem hex_good (l : List UInt8) (h : l.length = 20) : goodQ (hexL l) = true := (goodQ_iff _).2 ⟨by rw [hexL_length, h], hexL_ok l⟩
theorem pOut_hex (l : List UInt8) (h : l.length = 20) : pOut (hexL l) = l := by unfold pOut; rw [if_pos (hex_good l h), parse_hex l h]
theorem hex_pOut (l : List UInt8) (h : goodQ l = true) : hexL (pOut l) = l := by
  unfold pOut
  rw [if_pos h]
  exact hex_parse l ((goodQ_iff l).1 h).1 ((goodQ_iff l).1 h).2
end Go.Proofs.YtfabdnpeohpgnaaGreatDoor
namespace Go.Proofs.YtfabdnpeohpgnaaGreatDoor
set_option linter.all false
open Go.Lib (index indexByte splitK count countB splitB cut indexAny)
def psl (c : UInt8) : List UInt8 → List (List UInt8)
  | [] => [[]]
  | b :: r => if b = c then [] :: psl c r else match psl c r with
    | h :: t => (b :: h) :: t
    | [] => [[b]]
theorem psl_ne (c : UInt8) : ∀ l, psl c l ≠ []
  | [] => by simp [psl]
  | b :: r => by
    unfold psl
    split
    · simp
    · split <;> simp
theorem psl_cons_ne {c b : UInt8} (h : b ≠ c) (r : List UInt8) : ∃ x t, psl c r = x :: t ∧ psl c (b :: r) = (b :: x) :: t := by
  cases hp : psl c r with
  | nil => exact absurd hp (psl_ne c r)
  | cons x t => exact ⟨x, t, rfl, by rw [psl, if_neg h, hp]⟩
theorem psl_cons_eq (c : UInt8) (r : List UInt8) : psl c (c :: r) = [] :: psl c r := by rw [psl, if_pos rfl]
theorem splitK_psl (c : UInt8) : ∀ l : List UInt8, splitK [c] 0 (count l [c]) l = psl c l
  | [] => by
    rw [Go.Lib.count_miss (by simp [index])]; rfl
  | b :: l => by
    have ih := splitK_psl c l
    by_cases h : b = c
    · subst h
      have hix : index (b :: l) [b] = 0 := by rw [index]; simp [List.isPrefixOf]
      rw [Go.Lib.count_cons_eq, Nat.add_comm, splitK, hix, if_neg (by decide), psl_cons_eq, ← ih]
      simp
    · obtain ⟨x, t, e1, e2⟩ := psl_cons_ne h l
      have hp : ([c] : List UInt8).isPrefixOf (b :: l) = false := by simp [List.isPrefixOf, Ne.symm h]
      have hix : index (b :: l) [c] = if index l [c] == -1 then -1 else index l [c] + 1 := by rw [index, hp]; simp
      rw [Go.Lib.count_cons_ne b c l h, e2]
      rw [e1] at ih
      by_cases hm : index l [c] = -1
      · rw [Go.Lib.count_miss hm] at ih ⊢
        simp only [splitK, List.cons.injEq] at ih ⊢
        exact ⟨⟨trivial, ih.1⟩, ih.2⟩
      · have hge := Go.Lib.index_ge l [c]
        obtain ⟨j, hj⟩ : ∃ j : Nat, index l [c] = j := ⟨(index l [c]).toNat, by omega⟩
        rw [Go.Lib.count_hit (by simp) hj, Nat.add_comm] at ih ⊢
        have hix' : index (b :: l) [c] = ((j + 1 : Nat) : Int) := by rw [hix, if_neg (fun e => hm (beq_iff_eq.1 e)), hj]; omega
        rw [splitK, hj, if_neg (fun e => hm (by rw [hj]; exact beq_iff_eq.1 e))] at ih
        rw [splitK, hix', if_neg (fun e => by have := beq_iff_eq.1 e; omega)]
        simp only [List.length_cons, List.length_nil, Nat.zero_add, Nat.add_zero, Int.toNat_natCast, List.cons.injEq, List.take_succ_cons, List.drop_succ_cons] at ih ⊢
        exact ⟨⟨trivial, ih.1⟩, ih.2⟩
theorem psl_join_len (c : UInt8) : ∀ l : List UInt8, (psl c l).length ≤ l.length + 1
  | [] => by simp [psl]
  | b :: l => by
    have ih := psl_join_len c l
    by_cases h : b = c
    · subst h; rw [psl_cons_eq]; simp; omega
    · obtain ⟨x, t, e1, e2⟩ := psl_cons_ne h l
      rw [e2]; rw [e1] at ih; simp at ih ⊢; omega
def pre1 (acc : List UInt8) : List (List UInt8) → List (List UInt8)
  | [] => [acc]
  | h :: t => (acc ++ h) :: t
theorem pre1_nil (l : List (List UInt8)) (h : l ≠ []) : pre1 [] l = l := by cases l <;> simp_all [pre1]
theorem pre1_psl_eq (c : UInt8) (acc r : List UInt8) : pre1 acc (psl c (c :: r)) = acc :: pre1 [] (psl c r) := by
  rw [psl_cons_eq, pre1_nil _ (psl_ne c r)]; simp [pre1]
theorem pre1_psl_ne {c b : UInt8} (h : b ≠ c) (acc r : List UInt8) : pre1 acc (psl c (b :: r)) = pre1 (acc ++ [b]) (psl c r) := by
  obtain ⟨x, t, e1, e2⟩ := psl_cons_ne h r
  rw [e1, e2]; simp [pre1]
def badP (q : List UInt8) : Bool := decide (q = []) || decide (q = [46]) || decide (q = [46, 46])
def ctlB (c : UInt8) : Bool := decide (c = 0) || decide (c = 10) || decide (c = 13)
def rightP (p : List UInt8) : Bool := !decide (255 < p.length) && !p.any ctlB && !(psl 47 p).any badP
theorem indexAny_nn (chars : List UInt8) : ∀ s : List UInt8, (decide (0 ≤ indexAny s chars)) = s.any fun b => chars.contains b
  | [] => rfl
  | b :: l => by
    have ih := indexAny_nn chars l
    have hg := Go.Lib.indexAny_ge chars l
    have hd : indexAny (b :: l) chars = if chars.contains b then 0 else if indexAny l chars == -1 then -1 else indexAny l chars + 1 := by rw [indexAny]
    rw [List.any_cons, ← ih, hd]
    cases hb : chars.contains b with
    | true => simp
    | false =>
      simp only [Bool.false_or, Bool.false_eq_true, if_false]
      by_cases h : indexAny l chars = -1
      · rw [if_pos (beq_iff_eq.2 h), h]
      · rw [if_neg (by simpa using h)]
        rw [Bool.eq_iff_iff]; simp; omega
theorem rightP_facts {p : List UInt8} (h : rightP p = true) : p.length ≤ 255 ∧ (∀ c ∈ p, c ≠ 0 ∧ c ≠ 10 ∧ c ≠ 13) ∧ p ≠ [] := by
  unfold rightP at h
  simp only [Bool.and_eq_true, Bool.not_eq_true', decide_eq_false_iff_not, Nat.not_lt, List.any_eq_false] at h
  refine ⟨h.1.1, fun c hc => ?_, ?_⟩
  · have := h.1.2 c hc
    simp [ctlB] at this
    exact ⟨this.1.1, this.1.2, this.2⟩
  · rintro rfl
    exact absurd (h.2 [] (by simp [psl])) (by decide)
end Go.Proofs.YtfabdnpeohpgnaaGreatDoor
namespace Go.Proofs.YtfabdnpeohpgnaaGreatDoor
set_option linter.all false
open Go.RowKit
open Go.Lib (index hasPrefix trimPrefix cut occAt indexAny replaceK replaceNum replaceAll)
theorem occAt_1 {s : List UInt8} {c : UInt8} {j : Nat} (h : occAt s [c] j = true) : s[j]? = some c := by
  unfold occAt at h
  cases hd : s.drop j with
  | nil => rw [hd] at h; cases h
  | cons x r =>
    rw [hd] at h
    have e : c = x := by simpa [List.isPrefixOf] using h
    have := congrArg (fun l => l[0]?) hd
    simpa [e] using this
theorem occAt_append (a p b : List UInt8) : occAt (a ++ (p ++ b)) p a.length = true := by
  unfold occAt
  rw [List.drop_left]
  simp [List.isPrefixOf_iff_prefix]
theorem index_app {a p b : List UInt8} (h : ∀ j, j < a.length → occAt (a ++ (p ++ b)) p j = false) : index (a ++ (p ++ b)) p = a.length :=
  Lib.index_first (by simp) (occAt_append a p b) h
theorem cut_app {a p b : List UInt8} (h : ∀ j, j < a.length → occAt (a ++ (p ++ b)) p j = false) : cut (a ++ (p ++ b)) p = (a, b, true) := by
  have e := index_app h
  have e2 : (index (a ++ (p ++ b)) p).toNat = a.length := by omega
  unfold cut
  rw [if_pos (by omega), e2, List.take_left, ← List.drop_drop, List.drop_left, List.drop_left]
theorem cut_1 {a b : List UInt8} {c : UInt8} (h : c ∉ a) : cut (a ++ c :: b) [c] = (a, b, true) := by
  refine cut_app (p := [c]) fun j hj => ?_
  rw [Bool.eq_false_iff]
  intro ho
  have := occAt_1 ho
  rw [List.getElem?_append_left hj] at this
  exact h (List.mem_of_getElem? this)
theorem cut_1n {s : List UInt8} {c : UInt8} (h : c ∉ s) : cut s [c] = (s, [], false) := by
  have e : index s [c] = -1 := by
    rcases Lib.index_spec s [c] with h1 | ⟨i, _, _, h3, _⟩
    · exact h1.1
    · exact absurd (List.mem_of_getElem? (occAt_1 h3)) h
  unfold cut
  rw [if_neg (by omega)]
theorem cut_t {s p : List UInt8} (h : (cut s p).2.2 = true) : s = (cut s p).1 ++ (p ++ (cut s p).2.1) := by
  unfold cut at h ⊢
  split at h
  · rename_i hi
    rw [if_pos hi]
    simp only
    rcases Lib.index_spec s p with h1 | ⟨i, h1, h2, h3, _⟩
    · omega
    · have e : (index s p).toNat = i := by omega
      rw [e]
      unfold occAt at h3
      rw [List.isPrefixOf_iff_prefix] at h3
      obtain ⟨r, hr⟩ := h3
      rw [← List.drop_drop, ← hr, List.drop_left, hr, List.take_append_drop]
  · cases h
theorem cut_f {s p : List UInt8} (h : (cut s p).2.2 = false) : (cut s p).1 = s ∧ (cut s p).2.1 = [] := by
  unfold cut at h ⊢
  split at h
  · cases h
  · rename_i hi
    rw [if_neg hi]
    exact ⟨rfl, rfl⟩
theorem cut_1mem {s : List UInt8} {c : UInt8} : c ∉ (cut s [c]).1 := by
  unfold cut
  split
  · rename_i hi
    simp only
    rcases Lib.index_spec s [c] with h1 | ⟨i, h1, h2, h3, h4⟩
    · omega
    · have e : (index s [c]).toNat = i := by omega
      rw [e]
      intro hm
      obtain ⟨j, hj, hg⟩ := List.getElem_of_mem hm
      rw [List.length_take] at hj
      have := h4 j (by omega)
      rw [Bool.eq_false_iff] at this
      apply this
      rw [List.getElem_take] at hg
      unfold occAt
      rw [List.drop_eq_getElem_cons (by omega), hg]
      simp [List.isPrefixOf]
  · rename_i hi
    simp only
    intro hm
    obtain ⟨j, hj, hg⟩ := List.getElem_of_mem hm
    rcases Lib.index_spec s [c] with h1 | ⟨i, h1, h2, h3, h4⟩
    · have := h1.2 j (by omega)
      rw [Bool.eq_false_iff] at this
      apply this
      unfold occAt
      rw [List.drop_eq_getElem_cons hj, hg]
      simp [List.isPrefixOf]
    · omega
theorem cut_1f {s : List UInt8} {c : UInt8} (h : (cut s [c]).2.2 = false) : c ∉ s := by
  have h1 := cut_1mem (s := s) (c := c)
  rwa [(cut_f h).1] at h1
theorem cut_1t {s : List UInt8} {c : UInt8} (h : c ∈ s) : (cut s [c]).2.2 = true := by
  cases hc : (cut s [c]).2.2 with
  | true => rfl
  | false => exact absurd h (cut_1f hc)
theorem mem_split {c : UInt8} : ∀ {s : List UInt8}, c ∈ s → ∃ a b, s = a ++ c :: b ∧ c ∉ a := by
  intro s h
  exact ⟨_, _, cut_t (cut_1t h), cut_1mem⟩
end Go.Proofs.YtfabdnpeohpgnaaGreatDoor
namespace Go.Proofs.YtfabdnpeohpgnaaGreatDoor
set_option linter.all false
open Go.RowKit
open Go.Lib (index hasPrefix cut indexAny itoa decDigits)
structure ChgL where
  man : List UInt8
  user : List UInt8
  time : Int
  zone : Int
  extras : List ExL
  files : List (List UInt8)
  desc : List UInt8
def keyC (c : UInt8) : Bool := (decide (97 ≤ c.toNat) && decide (c.toNat ≤ 122)) || (decide (65 ≤ c.toNat) && decide (c.toNat ≤ 90)) || (decide (48 ≤ c.toNat) && decide (c.toNat ≤ 57)) || decide (c.toNat = 45) || decide (c.toNat = 95)
def keyedB (s : List UInt8) : Bool := decide (s ≠ []) && decide (s.length ≤ 100) && s.all keyC
def ascB : List (List UInt8) → Bool
  | [] => true
  | [_] => true
  | a :: b :: r => Op.bytesLess a b && ascB (b :: r)
def rightH (c : ChgL) : Bool := decide (c.user ≠ []) && !c.user.contains 10 && decide (0 ≤ c.time) && decide (c.time < 4611686018427387904) && decide (-86399 ≤ c.zone) && decide (c.zone ≤ 86399) &&
  (c.extras.all fun x => keyedB x.1) && ascB (c.extras.map Prod.fst) && c.files.all rightP && ascB c.files
def escC (c : UInt8) : List UInt8 := if c = 92 then [92, 92] else if c = 10 then [92, 110] else if c = 13 then [92, 114] else if c = 0 then [92, 48] else [c]
def tolL (v : List UInt8) : List UInt8 := v.flatMap escC
def meC (d : UInt8) : UInt8 := if d = 110 then 10 else if d = 114 then 13 else if d = 48 then 0 else d
def meaL : List UInt8 → List UInt8
  | [] => []
  | [c] => [c]
  | c :: d :: r => if c = 92 then meC d :: meaL r else c :: meaL (d :: r)
theorem mea_pair (d : UInt8) (r : List UInt8) : meaL (92 :: d :: r) = meC d :: meaL r := by rw [meaL, if_pos rfl]
theorem mea_other {c : UInt8} (h : c ≠ 92) (r : List UInt8) : meaL (c :: r) = c :: meaL r := by
  cases r with
  | nil => rfl
  | cons d r => rw [meaL, if_neg h]
theorem mea_tol : ∀ v : List UInt8, meaL (tolL v) = v
  | [] => rfl
  | c :: v => by
    have ih := mea_tol v
    unfold tolL at ih ⊢
    rw [List.flatMap_cons]
    by_cases h1 : c = 92
    · subst h1; rw [show escC 92 = [92, 92] from rfl, List.cons_append, List.cons_append, List.nil_append, mea_pair, ih]; rfl
    by_cases h2 : c = 10
    · subst h2; rw [show escC 10 = [92, 110] from rfl, List.cons_append, List.cons_append, List.nil_append, mea_pair, ih]; rfl
    by_cases h3 : c = 13
    · subst h3; rw [show escC 13 = [92, 114] from rfl, List.cons_append, List.cons_append, List.nil_append, mea_pair, ih]; rfl
    by_cases h4 : c = 0
    · subst h4; rw [show escC 0 = [92, 48] from rfl, List.cons_append, List.cons_append, List.nil_append, mea_pair, ih]; rfl
    rw [show escC c = [c] by unfold escC; rw [if_neg h1, if_neg h2, if_neg h3, if_neg h4], List.cons_append, List.nil_append, mea_other h1, ih]
theorem tol_no (v : List UInt8) : (10 : UInt8) ∉ tolL v ∧ (0 : UInt8) ∉ tolL v := by
  have key : ∀ c x : UInt8, x ∈ escC c → x ≠ 10 ∧ x ≠ 0 := by
    intro c x hx
    unfold escC at hx
    repeat' split at hx
    all_goals (simp only [List.mem_cons, List.not_mem_nil, or_false] at hx)
    all_goals first | (rcases hx with rfl | rfl <;> decide) | skip
    rename_i h1 h2 h3 h4
    subst hx; exact ⟨h2, h4⟩
  constructor
  · intro h; obtain ⟨c, _, hc⟩ := List.mem_flatMap.1 h; exact (key c _ hc).1 rfl
  · intro h; obtain ⟨c, _, hc⟩ := List.mem_flatMap.1 h; exact (key c _ hc).2 rfl
def joinB (c : UInt8) : List (List UInt8) → List UInt8
  | [] => []
  | x :: xs => x ++ xs.flatMap (c :: ·)
theorem joinB_psl (c : UInt8) : ∀ l : List UInt8, joinB c (psl c l) = l
  | [] => by simp [psl, joinB]
  | b :: l => by
    have ih := joinB_psl c l
    by_cases h : b = c
    · subst h
      rw [psl_cons_eq, joinB, List.nil_append]
      cases hp : psl b l with
      | nil => exact absurd hp (psl_ne _ _)
      | cons x t => rw [hp, joinB] at ih; rw [List.flatMap_cons, List.cons_append, ih]
    · obtain ⟨x, t, e1, e2⟩ := psl_cons_ne h l
      rw [e1, joinB] at ih
      rw [e2, joinB, List.cons_append, ih]
theorem psl_none {c : UInt8} : ∀ {l : List UInt8}, c ∉ l → psl c l = [l]
  | [], _ => rfl
  | b :: l, h => by
    have h1 : b ≠ c := fun e => h (by rw [e]; exact List.mem_cons_self ..)
    rw [psl, if_neg h1, psl_none (fun e => h (List.mem_cons_of_mem _ e))]
theorem psl_app {c : UInt8} : ∀ {a : List UInt8} (b : List UInt8), c ∉ a → psl c (a ++ c :: b) = a :: psl c b
  | [], b, _ => by rw [List.nil_append, psl_cons_eq]
  | x :: a, b, h => by
    have h1 : x ≠ c := fun e => h (by rw [e]; exact List.mem_cons_self ..)
    rw [List.cons_append, psl, if_neg h1, psl_app b (fun e => h (List.mem_cons_of_mem _ e))]
theorem psl_join {c : UInt8} : ∀ {xs : List (List UInt8)}, xs ≠ [] → (∀ x ∈ xs, c ∉ x) → psl c (joinB c xs) = xs
  | [], h, _ => absurd rfl h
  | [x], _, h => by rw [joinB, List.flatMap_nil, List.append_nil, psl_none (h x (List.mem_cons_self ..))]
  | x :: y :: r, _, h => by
    have ih := psl_join (c := c) (xs := y :: r) (by simp) (fun z hz => h z (List.mem_cons_of_mem _ hz))
    rw [joinB, List.flatMap_cons, List.cons_append, psl_app _ (h x (List.mem_cons_self ..))]
    rw [joinB] at ih; rw [ih]
def exT (x : ExL) : List UInt8 := x.1 ++ 58 :: tolL x.2
def exsT : List ExL → List UInt8
  | [] => []
  | x :: xs => 32 :: joinB 0 ((x :: xs).map exT)
def fileT (f : List UInt8) : List UInt8 := f ++ [10]
def dateT (c : ChgL) : List UInt8 := itoa c.time ++ 32 :: (itoa c.zone ++ exsT c.extras)
def bodyH (c : ChgL) : List UInt8 := hexL c.man ++ 10 :: (c.user ++ 10 :: (dateT c ++ 10 :: (c.files.flatMap fileT ++ 10 :: c.desc)))
def exP (o : List UInt8) : ExL := ((cut o [58]).1, meaL (cut o [58]).2.1)
def exOk (o : List UInt8) : Bool := (cut o [58]).2.2 && decide (tolL (meaL (cut o [58]).2.1) = (cut o [58]).2.1)
def filesG : Nat → List UInt8 → Bool → List (List UInt8) → List UInt8 × Bool × List (List UInt8)
  | 0, s, b, acc => (s, b, acc)
  | f + 1, s, b, acc => if b = true then (s, b, acc) else
      if (cut s [10]).1 = [] then ((cut s [10]).2.1, !(cut s [10]).2.2, acc) else filesG f (cut s [10]).2.1 (!(cut s [10]).2.2) (acc ++ [(cut s [10]).1])
def q1 (s : List UInt8) := cut s [10]
def q2 (s : List UInt8) := cut (q1 s).2.1 [10]
def q3 (s : List UInt8) := cut (q2 s).2.1 [10]
def tP (s : List UInt8) := cut (q3 s).1 [32]
def zP (s : List UInt8) := cut (tP s).2.1 [32]
def exsP (s : List UInt8) : List ExL := if (zP s).2.2 = true then (psl 0 (zP s).2.1).map exP else []
noncomputable def bad0 (s : List UInt8) : Bool := !(q1 s).2.2 || !(q2 s).2.2 || !(q3 s).2.2 || !nmB (tP s).1 || !nmB (zP s).1
noncomputable def badH (s : List UInt8) : Bool := bad0 s || ((zP s).2.2 && (psl 0 (zP s).2.1).any fun o => !exOk o)
noncomputable def fG (s : List UInt8) := filesG ((q3 s).2.1.length + 1) (q3 s).2.1 (badH s) []
noncomputable def chgC (s : List UInt8) : ChgL := ⟨pOut (q1 s).1, (q2 s).1, nmV (tP s).1, nmV (zP s).1, exsP s, (fG s).2.2, (fG s).1⟩
noncomputable def chgB (s : List UInt8) : Bool := goodQ (q1 s).1 && !(fG s).2.1 && rightH (chgC s)
theorem cut1_t {s : List UInt8} {c : UInt8} (h : (cut s [c]).2.2 = true) : s = (cut s [c]).1 ++ c :: (cut s [c]).2.1 := cut_t h
theorem filesG_true (f : Nat) (s : List UInt8) (acc : List (List UInt8)) : filesG f s true acc = (s, true, acc) := by
  cases f with
  | zero => rfl
  | succ f => rw [filesG, if_pos rfl]
theorem filesG_inv : ∀ (f : Nat) (s : List UInt8) (b : Bool) (acc : List (List UInt8)), s.length < f → (filesG f s b acc).2.1 = false →
    b = false ∧ ∃ fs, (filesG f s b acc).2.2 = acc ++ fs ∧ s = fs.flatMap fileT ++ 10 :: (filesG f s b acc).1 := by
  intro f
  induction f with
  | zero => intro s b acc h; omega
  | succ f ih =>
    intro s b acc hl h
    cases b with
    | true => rw [filesG_true] at h; cases h
    | false =>
      refine ⟨rfl, ?_⟩
      by_cases h1 : (cut s [10]).1 = []
      · rw [filesG, if_neg (by simp), if_pos h1] at h ⊢
        simp only [Bool.not_eq_false'] at h
        have := cut1_t h
        rw [h1] at this
        exact ⟨[], by simp, by simpa using this⟩
      · rw [filesG, if_neg (by simp), if_neg h1] at h ⊢
        cases h2 : (cut s [10]).2.2 with
        | false => rw [h2, show (!false) = true from rfl, filesG_true] at h; cases h
        | true =>
          rw [h2] at h
          simp only [Bool.not_true] at h ⊢
          have e := cut1_t h2
          have el := congrArg List.length e
          simp only [List.length_append, List.length_cons] at el
          obtain ⟨-, fs, h3, h4⟩ := ih _ _ _ (by omega) h
          refine ⟨(cut s [10]).1 :: fs, by rw [h3]; simp, ?_⟩
          rw [List.flatMap_cons, List.append_assoc, ← h4]
          conv => lhs; rw [e]
          simp [fileT]
theorem filesG_app : ∀ (fs : List (List UInt8)) (f : Nat) (d : List UInt8) (acc : List (List UInt8)), fs.length < f → (∀ x ∈ fs, x ≠ [] ∧ (10 : UInt8) ∉ x) →
    filesG f (fs.flatMap fileT ++ 10 :: d) false acc = (d, false, acc ++ fs) := by
  intro fs
  induction fs with
  | nil =>
    intro f d acc hf _
    obtain ⟨f, rfl⟩ : ∃ k, f = k + 1 := ⟨f - 1, by simp only [List.length_nil] at hf; omega⟩
    have e : cut (10 :: d) [10] = ([], d, true) := cut_1 (a := []) (by simp)
    rw [List.flatMap_nil, List.nil_append, filesG, if_neg (by simp), e, if_pos rfl, List.append_nil]; rfl
  | cons x fs ih =>
    intro f d acc hf hx
    obtain ⟨f, rfl⟩ : ∃ k, f = k + 1 := ⟨f - 1, by simp only [List.length_cons] at hf; omega⟩
    simp only [List.length_cons] at hf
    obtain ⟨x1, x2⟩ := hx x (List.mem_cons_self ..)
    have e : cut ((x :: fs).flatMap fileT ++ 10 :: d) [10] = (x, fs.flatMap fileT ++ 10 :: d, true) := by
      rw [List.flatMap_cons, fileT, List.append_assoc, List.append_assoc]
      exact cut_1 x2
    rw [filesG, if_neg (by simp), e, if_neg x1]
    simp only [Bool.not_true]
    rw [ih f d _ (by omega) (fun y hy => hx y (List.mem_cons_of_mem _ hy))]
    simp
theorem exT_P {o : List UInt8} (h : exOk o = true) : exT (exP o) = o := by
  unfold exOk at h
  simp only [Bool.and_eq_true, decide_eq_true_eq] at h
  unfold exT exP
  simp only
  rw [h.2, ← cut1_t h.1]
theorem keyC_no {k : List UInt8} (h : keyedB k = true) {c : UInt8} (hc : keyC c = false) : c ∉ k := by
  unfold keyedB at h
  simp only [Bool.and_eq_true, List.all_eq_true] at h
  intro hm
  have := h.2 c hm
  rw [hc] at this; cases this
theorem exP_T {x : ExL} (h : keyedB x.1 = true) : exP (exT x) = x ∧ exOk (exT x) = true := by
  have e : cut (exT x) [58] = (x.1, tolL x.2, true) := cut_1 (keyC_no h (by decide))
  unfold exP exOk
  rw [e]
  simp only
  rw [mea_tol]
  exact ⟨rfl, by simp⟩
theorem exT_no {x : ExL} (h : keyedB x.1 = true) : (10 : UInt8) ∉ exT x ∧ (0 : UInt8) ∉ exT x ∧ exT x ≠ [] := by
  obtain ⟨h1, h2⟩ := tol_no x.2
  have h3 := keyC_no h (c := 10) (by decide)
  have h4 := keyC_no h (c := 0) (by decide)
  unfold exT
  simp only [List.mem_append, List.mem_cons, not_or]
  exact ⟨⟨h3, by decide, h1⟩, ⟨h4, by decide, h2⟩, by simp⟩
theorem joinB_no {c : UInt8} (hc : c ≠ 0) : ∀ {xs : List (List UInt8)}, (∀ x ∈ xs, c ∉ x) → c ∉ joinB 0 xs
  | [], _ => by simp [joinB]
  | x :: xs, h => by
    rw [joinB, List.mem_append, not_or]
    refine ⟨h x (List.mem_cons_self ..), fun hm => ?_⟩
    obtain ⟨y, hy, hm⟩ := List.mem_flatMap.1 hm
    rcases List.mem_cons.1 hm with rfl | hm
    · exact hc rfl
    · exact h y (List.mem_cons_of_mem _ hy) hm
structure RightH (c : ChgL) : Prop where
  user : c.user ≠ [] ∧ (10 : UInt8) ∉ c.user
  time : 0 ≤ c.time ∧ c.time < 4611686018427387904
  zone : -86399 ≤ c.zone ∧ c.zone ≤ 86399
  keys : ∀ x ∈ c.extras, keyedB x.1 = true
  paths : ∀ f ∈ c.files, rightP f = true
theorem rightH_of {c : ChgL} (h : rightH c = true) : RightH c := by
  unfold rightH at h
  simp only [Bool.and_eq_true, decide_eq_true_eq, List.all_eq_true, Bool.not_eq_true'] at h
  obtain ⟨⟨⟨⟨⟨⟨⟨⟨⟨h1, h2⟩, h3⟩, h4⟩, h5⟩, h6⟩, h7⟩, h8⟩, h9⟩, h10⟩ := h
  exact ⟨⟨h1, fun hm => by rw [List.contains_iff_mem.2 hm] at h2; cases h2⟩, ⟨h3, h4⟩, ⟨h5, h6⟩, h7, h9⟩
theorem exsT_no {es : List ExL} (h : ∀ x ∈ es, keyedB x.1 = true) : (10 : UInt8) ∉ exsT es := by
  cases es with
  | nil => simp [exsT]
  | cons x xs =>
    rw [exsT, List.mem_cons, not_or]
    refine ⟨by decide, joinB_no (by decide) fun y hy => ?_⟩
    obtain ⟨z, hz, rfl⟩ := List.mem_map.1 hy
    exact (exT_no (h z hz)).1
theorem dateT_no {c : ChgL} (h : RightH c) : (10 : UInt8) ∉ dateT c := by
  unfold dateT
  simp only [List.mem_append, List.mem_cons, not_or]
  exact ⟨itoa_no _ _ (by decide) (by decide), by decide, itoa_no _ _ (by decide) (by decide), exsT_no h.keys⟩
theorem file_no {f : List UInt8} (h : rightP f = true) : f ≠ [] ∧ (10 : UInt8) ∉ f := by
  obtain ⟨_, h2, h3⟩ := rightP_facts h
  exact ⟨h3, fun hm => (h2 10 hm).2.1 rfl⟩
theorem hexL_n10 (l : List UInt8) : (10 : UInt8) ∉ hexL l := fun h => absurd (hexL_ok l 10 h) (by unfold dv; decide)
theorem flat_ge (fs : List (List UInt8)) : fs.length ≤ (fs.flatMap fileT).length := by
  induction fs with
  | nil => simp
  | cons x fs ih => rw [List.flatMap_cons, List.length_append, List.length_cons]; simp only [fileT, List.length_append, List.length_cons, List.length_nil] at ih ⊢; omega
theorem cut_date {c : ChgL} (h : RightH c) : cut (dateT c) [32] = (itoa c.time, itoa c.zone ++ exsT c.extras, true) ∧
    (c.extras = [] → cut (itoa c.zone ++ exsT c.extras) [32] = (itoa c.zone, [], false)) ∧ (c.extras ≠ [] → cut (itoa c.zone ++ exsT c.extras) [32] = (itoa c.zone, joinB 0 (c.extras.map exT), true)) := by
  have n1 := itoa_no c.time 32 (by decide) (by decide)
  have n2 := itoa_no c.zone 32 (by decide) (by decide)
  refine ⟨cut_1 n1, fun e => ?_, fun e => ?_⟩
  · rw [e, exsT, List.append_nil, cut_1n n2]
  · cases he : c.extras with
    | nil => exact absurd he e
    | cons x xs => exact cut_1 n2
theorem chg_body {c : ChgL} (h : rightH c = true) (h20 : c.man.length = 20) : chgB (bodyH c) = true ∧ chgC (bodyH c) = c := by
  have hr := rightH_of h
  generalize hs : bodyH c = s
  unfold bodyH at hs
  have e1 : q1 s = (hexL c.man, c.user ++ 10 :: (dateT c ++ 10 :: (c.files.flatMap fileT ++ 10 :: c.desc)), true) := by unfold q1; rw [← hs]; exact cut_1 (hexL_n10 _)
  have e2 : q2 s = (c.user, dateT c ++ 10 :: (c.files.flatMap fileT ++ 10 :: c.desc), true) := by unfold q2; rw [e1]; exact cut_1 hr.user.2
  have e3 : q3 s = (dateT c, c.files.flatMap fileT ++ 10 :: c.desc, true) := by unfold q3; rw [e2]; exact cut_1 (dateT_no hr)
  obtain ⟨d1, d2, d3⟩ := cut_date hr
  have e4 : tP s = (itoa c.time, itoa c.zone ++ exsT c.extras, true) := by unfold tP; rw [e3]; exact d1
  obtain ⟨m1, m2⟩ := nm_itoa (z := c.time) (by have := hr.time; omega) hr.time.2
  obtain ⟨m3, m4⟩ := nm_itoa (z := c.zone) (by have := hr.zone; omega) (by have := hr.zone; omega)
  have eb : (zP s).1 = itoa c.zone ∧ exsP s = c.extras ∧ ((zP s).2.2 && (psl 0 (zP s).2.1).any fun o => !exOk o) = false := by
    by_cases he : c.extras = []
    · have e5 : zP s = (itoa c.zone, [], false) := by unfold zP; rw [e4]; exact d2 he
      unfold exsP
      rw [e5, he]
      exact ⟨rfl, rfl, rfl⟩
    · have e5 : zP s = (itoa c.zone, joinB 0 (c.extras.map exT), true) := by unfold zP; rw [e4]; exact d3 he
      have ep : psl 0 (joinB 0 (c.extras.map exT)) = c.extras.map exT := by
        refine psl_join (by simpa using he) fun x hx => ?_
        obtain ⟨y, hy, rfl⟩ := List.mem_map.1 hx
        exact (exT_no (hr.keys y hy)).2.1
      unfold exsP
      rw [e5]
      simp only
      rw [ep, if_pos trivial, List.map_map]
      refine ⟨trivial, ?_, ?_⟩
      · conv => rhs; rw [← List.map_id c.extras]
        exact List.map_congr_left fun x hx => (exP_T (hr.keys x hx)).1
      · rw [Bool.true_and, List.any_eq_false]
        intro o ho
        obtain ⟨y, hy, rfl⟩ := List.mem_map.1 ho
        rw [(exP_T (hr.keys y hy)).2]; simp
  obtain ⟨b1, b2, b3⟩ := eb
  have e6 : badH s = false := by unfold badH bad0; rw [b3, e1, e2, e3, e4, b1]; simp only; rw [m1, m3]; rfl
  have e7 : fG s = (c.desc, false, c.files) := by
    unfold fG
    rw [e6, e3]
    simp only
    refine filesG_app c.files _ c.desc [] ?_ fun x hx => file_no (hr.paths x hx)
    have := flat_ge c.files
    simp only [List.length_append, List.length_cons]; omega
  have ec : chgC s = c := by
    unfold chgC
    rw [e1, e2, e4, b1, b2, e7]
    simp only
    rw [m2, m4, pOut_hex _ h20]
  refine ⟨?_, ec⟩
  unfold chgB
  rw [ec, h, e7, e1]
  simp only
  rw [hex_good _ h20]; rfl
theorem chgC_len (s : List UInt8) : (chgC s).man.length = 20 := pOut_len _
theorem body_chg {s : List UInt8} (h : chgB s = true) : rightH (chgC s) = true ∧ bodyH (chgC s) = s := by
  unfold chgB at h
  simp only [Bool.and_eq_true, Bool.not_eq_true'] at h
  obtain ⟨⟨h1, h2⟩, h3⟩ := h
  refine ⟨h3, ?_⟩
  obtain ⟨b, fs, f1, f2⟩ := filesG_inv _ _ _ _ (Nat.lt_succ_self _) h2
  have f1 : (fG s).2.2 = [] ++ fs := f1
  have f2 : (q3 s).2.1 = fs.flatMap fileT ++ 10 :: (fG s).1 := f2
  unfold badH bad0 at b
  simp only [Bool.or_eq_false_iff, Bool.not_eq_false'] at b
  obtain ⟨⟨⟨⟨⟨a1, a2⟩, a3⟩, a4⟩, a5⟩, a6⟩ := b
  have c1 : s = (q1 s).1 ++ 10 :: (q1 s).2.1 := cut1_t a1
  have c2 : (q1 s).2.1 = (q2 s).1 ++ 10 :: (q2 s).2.1 := cut1_t a2
  have c3 : (q2 s).2.1 = (q3 s).1 ++ 10 :: (q3 s).2.1 := cut1_t a3
  have hz : (zP s).1 ≠ [] := by intro e; rw [e, nmB_nil] at a5; cases a5
  have c4 : (q3 s).1 = (tP s).1 ++ 32 :: (tP s).2.1 := by
    cases ht : (tP s).2.2 with
    | true => exact cut1_t ht
    | false =>
      exfalso
      have := (cut_f ht).2
      apply hz
      unfold zP
      rw [show (tP s).2.1 = [] from this]; rfl
  have c5 : (tP s).2.1 = (zP s).1 ++ exsT (exsP s) := by
    unfold exsP
    cases ht : (zP s).2.2 with
    | true =>
      rw [ht, Bool.true_and, List.any_eq_false] at a6
      have e := cut1_t ht
      have em : ((psl 0 (zP s).2.1).map exP).map exT = psl 0 (zP s).2.1 := by
        rw [List.map_map]
        conv => rhs; rw [← List.map_id (psl 0 (zP s).2.1)]
        refine List.map_congr_left fun o ho => exT_P ?_
        have := a6 o ho
        cases hk : exOk o with
        | true => rfl
        | false => rw [hk] at this; exact absurd rfl this
      have ej := joinB_psl 0 (zP s).2.1
      rw [if_pos rfl]
      have en : (psl 0 (zP s).2.1).map exP ≠ [] := by simpa using psl_ne 0 (zP s).2.1
      have ex : exsT ((psl 0 (zP s).2.1).map exP) = 32 :: joinB 0 (((psl 0 (zP s).2.1).map exP).map exT) := by
        cases hp : (psl 0 (zP s).2.1).map exP with
        | nil => exact absurd hp en
        | cons x xs => rfl
      rw [ex, em, ej]
      exact e
    | false =>
      have e := (cut_f ht).1
      rw [if_neg (by simp), exsT, List.append_nil]
      exact e.symm
  unfold bodyH dateT chgC
  simp only
  rw [itoa_nm a4, itoa_nm a5, hex_pOut _ h1, f1, List.nil_append]
  conv => rhs; rw [c1, c2, c3, c4, c5, f2]
end Go.Proofs.YtfabdnpeohpgnaaGreatDoor
