/- The document's reading of a sum's text, on abstract values: the whole function. -/
import Derived.Test.YtbefhofmbiedgaaRParse
namespace Go.Proofs.Ytbefhofmbiedgaa
set_option linter.all false
open Go.RowKit
def goodP (l : List UInt8) : Bool := decide (l.length = 40) && (List.range 20).all fun i => decide (okP l i)
def rOut (l : List UInt8) : List UInt8 := if goodP l = true then (List.range 20).map (fun j => UInt8.ofNat (valP l j)) else List.replicate 20 0
theorem valP_lt (l : List UInt8) (j : Nat) : valP l j < 256 := by
  have b1 := dv_lt (l.getD (2 * j) 0)
  have b2 := dv_lt (l.getD (2 * j + 1) 0)
  unfold valP; omega
theorem rOut_U (l : List UInt8) : (rOut l).map U = if goodP l = true then idV l 20 else List.replicate 20 (.int .u8 0) := by
  unfold rOut
  split
  · unfold idV
    rw [List.map_map, Nat.sub_self, List.replicate_zero, List.append_nil]
    refine List.map_congr_left fun j _ => ?_
    have := valP_lt l j
    show Value.int .u8 ((UInt8.ofNat (valP l j)).toNat : Int) = _
    rw [UInt8.toNat_ofNat', Nat.mod_eq_of_lt this]
  · rfl
def rparseS : Spec := fun xs hp => match xs, hp with
  | [.str l], [] => some ⟨.tup [.blob ((rOut l).map U), .bool (goodP l)], [], l.length ≤ 100000⟩
  | _, _ => none
theorem idW_zero (l : List UInt8) (i : Nat) (h : i < 20) : idW l i 0 = idV l i := by
  unfold idW idV
  rw [if_neg (by omega), show 20 - i = (19 - i) + 1 by omega, List.replicate_succ]
  simp
def stQ (l : List UInt8) (i : Nat) : St := ⟨[(0, .str l), (2, .ref 0 0 0), (3, .bool false), (4, .ref 1 0 0), (5, .int .i64 (i : Int))], [.cells 24 [(20, .blob (List.replicate 20 (.int .u8 0)))], .cells 24 [(20, .blob (idV l i))]]⟩
theorem rprs_round (l : List UInt8) (i : Nat) (K : St → Prop) (R : Ret) (hl : l.length = 40) (hi : i < 20) (hR : ¬ okP l i → R = ⟨.tup [.blob (List.replicate 20 (.int .u8 0)), .bool false], [], R.pre⟩)
    (hK : okP l i → ∀ s', kp [0, 2, 3, 4, 5] 2 s' = some (stQ l (i + 1)) → K s') : awp phiD 0 b_rprs_1 (thenQ K (inQ 0 (thenQ (awp phiD 0 t_rprs_2 (retQ r_rprs 0 R)) (retQ r_rprs 0 R)))) (stQ l i) := by
  generalize hQ2 : thenQ (awp phiD 0 t_rprs_2 (retQ r_rprs 0 R)) (retQ r_rprs 0 R) = Q2
  have hret : ∀ s, Q2 .ret s = finP 0 R s (aret s r_rprs) := by intro s; subst hQ2; rfl
  simp only [b_rprs_1, stQ, awp_skip, awp_reg, awp_draw, awp_seq, awp_cond, awp_block, awp_loop, awp_exit, awp_ret, arun_nil, arun_op, arun_gt, arun_gf, arunD_nil, arunD_op, arunD_gt, arunD_gf, aq_some, isB_t, isB_u, isB_f, isB_g, ifB_t, ifB_f, thenQ_n, thenQ_x, thenQ_r, inQ_n, inQ_r, inQ_x, retQ_n, retQ_r, exD, AOp.isH, preB, astep, stV, stN, stE, stC, aval, anew, aElems, frzS, frzH, aeff, slots, aret, ares, aress, AV.isTup, ofC_i, ofC_b, ofC_s, ofC_U, getD_mapU, getD_Bs, Bs_len, Int.toNat_natCast, opd, pt, tk, subp, rdP, Rt.size, Rt.isAgg, Rt.zv, aBin, aInt, aStr, arI, aUn, aToInt, aToStr, aIdxS, zv, aIdxA, aIa, aIaA, aFa, aLd, aFld, pparts, aLo, aHi, cutL, aSlS, aSl, aExt, aNck, AV.isStr, aLen, AV.one, AV.multi, pureB, szOk, psz, drp, spl, aEqB, aEqA, aMm, aMkfn, aMkif, aBuild, toV, aBuildA, wrP, unparts, view, nilS, St.ev, lk, St.put, St.pin, acall0, acall1, acall2, acall3, bor, bor0, bor1, phiL_nil, phiL_at, tau, lentO, okIds, flatC, flatB, flatOs, flatO, place, setAll_nil, setAll_cons, nodupB, renObj, closeIds, addNew, idsOf, idsObj, posOf, ↓reduceIte, Option.isSome_none, Option.isSome_some, Bool.or_true, Bool.true_or,  Nat.reduceEqDiff, Nat.reduceBEq, Nat.reduceSub, Nat.reduceLT, beq_self_eq_true, List.map, List.set, List.map_cons, List.map_nil, List.flatMap_cons, List.flatMap_nil, List.flatten_cons, List.flatten_nil, true_and, and_true, List.length_cons, List.length_nil, Nat.reduceAdd, Nat.reduceLeDiff, List.nil_append, List.cons_append, List.append_nil, Option.map, mapO, ren, kp, kpI, ent, nilG, Option.bind, List.range, List.range.loop, List.getElem?_cons_zero, List.getElem?_cons_succ, List.getElem?_nil, List.getD_cons_zero, List.getD_cons_succ, List.drop_zero, List.drop_succ_cons, List.drop_nil, List.take_zero, List.take_succ_cons, List.all_cons, List.all_nil, List.isEmpty_nil, List.isEmpty_cons, Bool.and_true, Bool.true_and, Bool.not_true, Bool.not_false, List.contains_nil, reduceCtorEq, List.contains_cons, Bool.or_false, Bool.false_or, eq_self, forall_const, false_implies, Bool.false_eq_true, Nat.le_refl, List.length_map, List.length_set, List.length_replicate, and_self, implies_true]
  refine ⟨fun _ => ?_, fun hf => absurd (of_decide_eq_false hf) (by omega)⟩
  refine loop_at [] [0, 2, 3, 4, 5, 6, 7] [0, 1] (fun n : Nat => stP l i n) (fun n => n ≤ 256) (fun n => 256 - n) 0
    (by simp only [stP, idW_zero l i hi, awp_skip, awp_reg, awp_draw, awp_seq, awp_cond, awp_block, awp_loop, awp_exit, awp_ret, arun_nil, arun_op, arun_gt, arun_gf, arunD_nil, arunD_op, arunD_gt, arunD_gf, aq_some, isB_t, isB_u, isB_f, isB_g, ifB_t, ifB_f, thenQ_n, thenQ_x, thenQ_r, inQ_n, inQ_r, inQ_x, retQ_n, retQ_r, exD, AOp.isH, preB, astep, stV, stN, stE, stC, aval, anew, aElems, frzS, frzH, aeff, slots, aret, ares, aress, AV.isTup, ofC_i, ofC_b, ofC_s, ofC_U, getD_mapU, getD_Bs, Bs_len, Int.toNat_natCast, opd, pt, tk, subp, rdP, Rt.size, Rt.isAgg, Rt.zv, aBin, aInt, aStr, arI, aUn, aToInt, aToStr, aIdxS, zv, aIdxA, aIa, aIaA, aFa, aLd, aFld, pparts, aLo, aHi, cutL, aSlS, aSl, aExt, aNck, AV.isStr, aLen, AV.one, AV.multi, pureB, szOk, psz, drp, spl, aEqB, aEqA, aMm, aMkfn, aMkif, aBuild, toV, aBuildA, wrP, unparts, view, nilS, St.ev, lk, St.put, St.pin, acall0, acall1, acall2, acall3, bor, bor0, bor1, phiL_nil, phiL_at, tau, lentO, okIds, flatC, flatB, flatOs, flatO, place, setAll_nil, setAll_cons, nodupB, renObj, closeIds, addNew, idsOf, idsObj, posOf, ↓reduceIte, Option.isSome_none, Option.isSome_some, Bool.or_true, Bool.true_or,  Nat.reduceEqDiff, Nat.reduceBEq, Nat.reduceSub, Nat.reduceLT, beq_self_eq_true, List.map, List.set, List.map_cons, List.map_nil, List.flatMap_cons, List.flatMap_nil, List.flatten_cons, List.flatten_nil, true_and, and_true, List.length_cons, List.length_nil, Nat.reduceAdd, Nat.reduceLeDiff, List.nil_append, List.cons_append, List.append_nil, Option.map, mapO, ren, kp, kpI, ent, nilG, Option.bind, List.range, List.range.loop, List.getElem?_cons_zero, List.getElem?_cons_succ, List.getElem?_nil, List.getD_cons_zero, List.getD_cons_succ, List.drop_zero, List.drop_succ_cons, List.drop_nil, List.take_zero, List.take_succ_cons, List.all_cons, List.all_nil, List.isEmpty_nil, List.isEmpty_cons, Bool.and_true, Bool.true_and, Bool.not_true, Bool.not_false, List.contains_nil, reduceCtorEq, List.contains_cons, Bool.or_false, Bool.false_or, eq_self, forall_const, false_implies, Bool.false_eq_true, Nat.le_refl, List.length_map, List.length_set, List.length_replicate, and_self, implies_true]; simp) (by omega) ⟨rfl, rfl⟩ (fun n hn => ?_)
  by_cases hlt : n < 256
  · exact rparse_in l i n _ _ hl hi hlt fun s' hs' => ⟨n + 1, by omega, by omega, hs'⟩
  · have hn : n = 256 := by omega
    subst hn
    have hf : decide (((256 : Nat) : Int) < 256) = false := rfl
    simp only [b_rprs_0, t_rprs_0, t_rprs_1, stP, hf, hret, r_rprs, awp_skip, awp_reg, awp_draw, awp_seq, awp_cond, awp_block, awp_loop, awp_exit, awp_ret, arun_nil, arun_op, arun_gt, arun_gf, arunD_nil, arunD_op, arunD_gt, arunD_gf, aq_some, isB_t, isB_u, isB_f, isB_g, ifB_t, ifB_f, thenQ_n, thenQ_x, thenQ_r, inQ_n, inQ_r, inQ_x, retQ_n, retQ_r, exD, AOp.isH, preB, astep, stV, stN, stE, stC, aval, anew, aElems, frzS, frzH, aeff, slots, aret, ares, aress, AV.isTup, ofC_i, ofC_b, ofC_s, ofC_U, getD_mapU, getD_Bs, Bs_len, Int.toNat_natCast, opd, pt, tk, subp, rdP, Rt.size, Rt.isAgg, Rt.zv, aBin, aInt, aStr, arI, aUn, aToInt, aToStr, aIdxS, zv, aIdxA, aIa, aIaA, aFa, aLd, aFld, pparts, aLo, aHi, cutL, aSlS, aSl, aExt, aNck, AV.isStr, aLen, AV.one, AV.multi, pureB, szOk, psz, drp, spl, aEqB, aEqA, aMm, aMkfn, aMkif, aBuild, toV, aBuildA, wrP, unparts, view, nilS, St.ev, lk, St.put, St.pin, acall0, acall1, acall2, acall3, bor, bor0, bor1, phiL_nil, phiL_at, tau, lentO, okIds, flatC, flatB, flatOs, flatO, place, setAll_nil, setAll_cons, nodupB, renObj, closeIds, addNew, idsOf, idsObj, posOf, ↓reduceIte, Option.isSome_none, Option.isSome_some, Bool.or_true, Bool.true_or,  Nat.reduceEqDiff, Nat.reduceBEq, Nat.reduceSub, Nat.reduceLT, beq_self_eq_true, List.map, List.set, List.map_cons, List.map_nil, List.flatMap_cons, List.flatMap_nil, List.flatten_cons, List.flatten_nil, true_and, and_true, List.length_cons, List.length_nil, Nat.reduceAdd, Nat.reduceLeDiff, List.nil_append, List.cons_append, List.append_nil, Option.map, mapO, ren, kp, kpI, ent, nilG, Option.bind, List.range, List.range.loop, List.getElem?_cons_zero, List.getElem?_cons_succ, List.getElem?_nil, List.getD_cons_zero, List.getD_cons_succ, List.drop_zero, List.drop_succ_cons, List.drop_nil, List.take_zero, List.take_succ_cons, List.all_cons, List.all_nil, List.isEmpty_nil, List.isEmpty_cons, Bool.and_true, Bool.true_and, Bool.not_true, Bool.not_false, List.contains_nil, reduceCtorEq, List.contains_cons, Bool.or_false, Bool.false_or, eq_self, forall_const, false_implies, Bool.false_eq_true, Nat.le_refl, List.length_map, List.length_set, List.length_replicate, and_self, implies_true]
    have hv : valP l i < 256 := by
      have b1 := dv_lt (l.getD (2 * i) 0)
      have b2 := dv_lt (l.getD (2 * i + 1) 0)
      unfold valP; omega
    by_cases hok : okP l i
    · have hd : decide (okP l i ∧ valP l i < 256) = true := decide_eq_true ⟨hok, hv⟩
      rw [hd]
      refine ⟨fun h => absurd h (by simp), fun _ => ⟨by simp only [inI]; omega, hK hok _ ?_⟩⟩
      simp only [stQ, awp_skip, awp_reg, awp_draw, awp_seq, awp_cond, awp_block, awp_loop, awp_exit, awp_ret, arun_nil, arun_op, arun_gt, arun_gf, arunD_nil, arunD_op, arunD_gt, arunD_gf, aq_some, isB_t, isB_u, isB_f, isB_g, ifB_t, ifB_f, thenQ_n, thenQ_x, thenQ_r, inQ_n, inQ_r, inQ_x, retQ_n, retQ_r, exD, AOp.isH, preB, astep, stV, stN, stE, stC, aval, anew, aElems, frzS, frzH, aeff, slots, aret, ares, aress, AV.isTup, ofC_i, ofC_b, ofC_s, ofC_U, getD_mapU, getD_Bs, Bs_len, Int.toNat_natCast, opd, pt, tk, subp, rdP, Rt.size, Rt.isAgg, Rt.zv, aBin, aInt, aStr, arI, aUn, aToInt, aToStr, aIdxS, zv, aIdxA, aIa, aIaA, aFa, aLd, aFld, pparts, aLo, aHi, cutL, aSlS, aSl, aExt, aNck, AV.isStr, aLen, AV.one, AV.multi, pureB, szOk, psz, drp, spl, aEqB, aEqA, aMm, aMkfn, aMkif, aBuild, toV, aBuildA, wrP, unparts, view, nilS, St.ev, lk, St.put, St.pin, acall0, acall1, acall2, acall3, bor, bor0, bor1, phiL_nil, phiL_at, tau, lentO, okIds, flatC, flatB, flatOs, flatO, place, setAll_nil, setAll_cons, nodupB, renObj, closeIds, addNew, idsOf, idsObj, posOf, ↓reduceIte, Option.isSome_none, Option.isSome_some, Bool.or_true, Bool.true_or,  Nat.reduceEqDiff, Nat.reduceBEq, Nat.reduceSub, Nat.reduceLT, beq_self_eq_true, List.map, List.set, List.map_cons, List.map_nil, List.flatMap_cons, List.flatMap_nil, List.flatten_cons, List.flatten_nil, true_and, and_true, List.length_cons, List.length_nil, Nat.reduceAdd, Nat.reduceLeDiff, List.nil_append, List.cons_append, List.append_nil, Option.map, mapO, ren, kp, kpI, ent, nilG, Option.bind, List.range, List.range.loop, List.getElem?_cons_zero, List.getElem?_cons_succ, List.getElem?_nil, List.getD_cons_zero, List.getD_cons_succ, List.drop_zero, List.drop_succ_cons, List.drop_nil, List.take_zero, List.take_succ_cons, List.all_cons, List.all_nil, List.isEmpty_nil, List.isEmpty_cons, Bool.and_true, Bool.true_and, Bool.not_true, Bool.not_false, List.contains_nil, reduceCtorEq, List.contains_cons, Bool.or_false, Bool.false_or, eq_self, forall_const, false_implies, Bool.false_eq_true, Nat.le_refl, List.length_map, List.length_set, List.length_replicate, and_self, implies_true]
      have hw : idW l i 256 = idV l (i + 1) := by
        unfold idW idV
        rw [if_pos ⟨hok, hv⟩, List.range_succ, List.map_append, show 20 - (i + 1) = 19 - i by omega]
        rfl
      rw [hw]
      rfl
    · have hd : decide (okP l i ∧ valP l i < 256) = false := decide_eq_false fun h => hok h.1
      rw [hd]
      refine ⟨fun _ => ?_, fun h => absurd h (by simp)⟩
      rw [hR hok]
      simp only [finP, finI, closeIds, addNew, idsOf, List.flatMap_nil, List.flatMap_cons, List.append_nil, List.nil_append, List.take_zero, nodupB, posOf, idsObj, List.getD_cons_zero, List.getD_cons_succ, List.range, List.range.loop, ren, lentO, mapO, Option.map, ↓reduceIte, Nat.reduceEqDiff, true_and, and_true, List.getElem?_cons_zero, List.getElem?_cons_succ, Nat.reduceAdd, List.contains_nil, Bool.not_false, Bool.and_true, List.map_nil, List.map_cons, List.take_succ_cons]
theorem rparse_ok : FnOk Try.prog 13 rparseS := by
  refine fn_slim Try.func13 s_rprs (Φ := phiD) (phi_cons digit_ok (by kernel_rfl) phi_nil) ?_
  intro xs hp r hs hp'
  unfold rparseS at hs
  split at hs
  · injection hs with hs; subst hs
    rename_i l
    refine ⟨len_le (by kernel_rfl), ?_⟩
    have p1 : l.length ≤ 100000 := hp'
    clear hp'
    rw [rOut_U]
    obtain ⟨R, hR⟩ : ∃ R, R = Ret.mk (.tup [.blob (if goodP l = true then idV l 20 else List.replicate 20 (.int .u8 0)), .bool (goodP l)]) [] (l.length ≤ 100000) := ⟨_, rfl⟩
    rw [← hR]
    simp only [c_rprs, awp_skip, awp_reg, awp_draw, awp_seq, awp_cond, awp_block, awp_loop, awp_exit, awp_ret, arun_nil, arun_op, arun_gt, arun_gf, arunD_nil, arunD_op, arunD_gt, arunD_gf, aq_some, isB_t, isB_u, isB_f, isB_g, ifB_t, ifB_f, thenQ_n, thenQ_x, thenQ_r, inQ_n, inQ_r, inQ_x, retQ_n, retQ_r, exD, AOp.isH, preB, astep, stV, stN, stE, stC, aval, anew, aElems, frzS, frzH, aeff, slots, aret, ares, aress, AV.isTup, ofC_i, ofC_b, ofC_s, ofC_U, getD_mapU, getD_Bs, Bs_len, Int.toNat_natCast, opd, pt, tk, subp, rdP, Rt.size, Rt.isAgg, Rt.zv, aBin, aInt, aStr, arI, aUn, aToInt, aToStr, aIdxS, zv, aIdxA, aIa, aIaA, aFa, aLd, aFld, pparts, aLo, aHi, cutL, aSlS, aSl, aExt, aNck, AV.isStr, aLen, AV.one, AV.multi, pureB, szOk, psz, drp, spl, aEqB, aEqA, aMm, aMkfn, aMkif, aBuild, toV, aBuildA, wrP, unparts, view, nilS, St.ev, lk, St.put, St.pin, acall0, acall1, acall2, acall3, bor, bor0, bor1, phiL_nil, phiL_at, tau, lentO, okIds, flatC, flatB, flatOs, flatO, place, setAll_nil, setAll_cons, nodupB, renObj, closeIds, addNew, idsOf, idsObj, posOf, ↓reduceIte, Option.isSome_none, Option.isSome_some, Bool.or_true, Bool.true_or,  Nat.reduceEqDiff, Nat.reduceBEq, Nat.reduceSub, Nat.reduceLT, beq_self_eq_true, List.map, List.set, List.map_cons, List.map_nil, List.flatMap_cons, List.flatMap_nil, List.flatten_cons, List.flatten_nil, true_and, and_true, List.length_cons, List.length_nil, Nat.reduceAdd, Nat.reduceLeDiff, List.nil_append, List.cons_append, List.append_nil, Option.map, mapO, ren, kp, kpI, ent, nilG, Option.bind, List.range, List.range.loop, List.getElem?_cons_zero, List.getElem?_cons_succ, List.getElem?_nil, List.getD_cons_zero, List.getD_cons_succ, List.drop_zero, List.drop_succ_cons, List.drop_nil, List.take_zero, List.take_succ_cons, List.all_cons, List.all_nil, List.isEmpty_nil, List.isEmpty_cons, Bool.and_true, Bool.true_and, Bool.not_true, Bool.not_false, List.contains_nil, reduceCtorEq, List.contains_cons, Bool.or_false, Bool.false_or, eq_self, forall_const, false_implies, Bool.false_eq_true, Nat.le_refl, List.length_map, List.length_set, List.length_replicate, and_self, implies_true]
    refine ⟨fun hc => ?_, fun hc => ?_⟩
    · have hl : l.length ≠ 40 := by intro h; rw [h] at hc; simp at hc
      have hg : goodP l = false := by unfold goodP; simp [hl]
      simp only [hR, hg, r_rprs, awp_skip, awp_reg, awp_draw, awp_seq, awp_cond, awp_block, awp_loop, awp_exit, awp_ret, arun_nil, arun_op, arun_gt, arun_gf, arunD_nil, arunD_op, arunD_gt, arunD_gf, aq_some, isB_t, isB_u, isB_f, isB_g, ifB_t, ifB_f, thenQ_n, thenQ_x, thenQ_r, inQ_n, inQ_r, inQ_x, retQ_n, retQ_r, exD, AOp.isH, preB, astep, stV, stN, stE, stC, aval, anew, aElems, frzS, frzH, aeff, slots, aret, ares, aress, AV.isTup, ofC_i, ofC_b, ofC_s, ofC_U, getD_mapU, getD_Bs, Bs_len, Int.toNat_natCast, opd, pt, tk, subp, rdP, Rt.size, Rt.isAgg, Rt.zv, aBin, aInt, aStr, arI, aUn, aToInt, aToStr, aIdxS, zv, aIdxA, aIa, aIaA, aFa, aLd, aFld, pparts, aLo, aHi, cutL, aSlS, aSl, aExt, aNck, AV.isStr, aLen, AV.one, AV.multi, pureB, szOk, psz, drp, spl, aEqB, aEqA, aMm, aMkfn, aMkif, aBuild, toV, aBuildA, wrP, unparts, view, nilS, St.ev, lk, St.put, St.pin, acall0, acall1, acall2, acall3, bor, bor0, bor1, phiL_nil, phiL_at, tau, lentO, okIds, flatC, flatB, flatOs, flatO, place, setAll_nil, setAll_cons, nodupB, renObj, closeIds, addNew, idsOf, idsObj, posOf, ↓reduceIte, Option.isSome_none, Option.isSome_some, Bool.or_true, Bool.true_or,  Nat.reduceEqDiff, Nat.reduceBEq, Nat.reduceSub, Nat.reduceLT, beq_self_eq_true, List.map, List.set, List.map_cons, List.map_nil, List.flatMap_cons, List.flatMap_nil, List.flatten_cons, List.flatten_nil, true_and, and_true, List.length_cons, List.length_nil, Nat.reduceAdd, Nat.reduceLeDiff, List.nil_append, List.cons_append, List.append_nil, Option.map, mapO, ren, kp, kpI, ent, nilG, Option.bind, List.range, List.range.loop, List.getElem?_cons_zero, List.getElem?_cons_succ, List.getElem?_nil, List.getD_cons_zero, List.getD_cons_succ, List.drop_zero, List.drop_succ_cons, List.drop_nil, List.take_zero, List.take_succ_cons, List.all_cons, List.all_nil, List.isEmpty_nil, List.isEmpty_cons, Bool.and_true, Bool.true_and, Bool.not_true, Bool.not_false, List.contains_nil, reduceCtorEq, List.contains_cons, Bool.or_false, Bool.false_or, eq_self, forall_const, false_implies, Bool.false_eq_true, Nat.le_refl, List.length_map, List.length_set, List.length_replicate, and_self, implies_true]
      simp only [finP, finI, closeIds, addNew, idsOf, List.flatMap_nil, List.flatMap_cons, List.append_nil, List.nil_append, List.take_zero, nodupB, posOf, idsObj, List.getD_cons_zero, List.getD_cons_succ, List.range, List.range.loop, ren, lentO, mapO, Option.map, ↓reduceIte, Nat.reduceEqDiff, true_and, and_true, List.getElem?_cons_zero, List.getElem?_cons_succ, Nat.reduceAdd, List.contains_nil, Bool.not_false, Bool.and_true, List.map_nil, List.map_cons, List.take_succ_cons]
    · have hl : l.length = 40 := by
        have : ¬ ¬ ((l.length : Int) = 40) := by simpa using hc
        omega
      clear hc
      refine loop_at [] [0, 2, 3, 4, 5] [0, 1] (fun i : Nat => stQ l i) (fun i => i ≤ 20 ∧ ∀ j, j < i → okP l j) (fun i => 20 - i) 0
        rfl ⟨by omega, fun j hj => by omega⟩ ⟨rfl, rfl⟩ (fun i hi => ?_)
      obtain ⟨hi20, hal⟩ := hi
      by_cases hlt : i < 20
      · refine rprs_round l i _ R hl hlt (fun hno => ?_) fun hok s' hs' => ⟨i + 1, ⟨by omega, fun j hj => ?_⟩, by omega, hs'⟩
        · have hg : goodP l = false := by
            cases h : goodP l with
            | false => rfl
            | true =>
              unfold goodP at h
              simp only [Bool.and_eq_true, List.all_eq_true, decide_eq_true_eq] at h
              exact absurd (h.2 i (List.mem_range.2 hlt)) hno
          rw [hR, hg]; rfl
        · rcases Nat.lt_or_ge j i with h | h
          · exact hal j h
          · rw [show j = i by omega]; exact hok
      · have hi : i = 20 := by omega
        subst hi
        have hg : goodP l = true := by
          unfold goodP
          simp only [Bool.and_eq_true, List.all_eq_true, decide_eq_true_eq]
          exact ⟨hl, fun j hj => hal j (List.mem_range.1 hj)⟩
        have hf : decide (((20 : Nat) : Int) < 20) = false := rfl
        simp only [b_rprs_1, t_rprs_2, stQ, hf, r_rprs, hR, hg, awp_skip, awp_reg, awp_draw, awp_seq, awp_cond, awp_block, awp_loop, awp_exit, awp_ret, arun_nil, arun_op, arun_gt, arun_gf, arunD_nil, arunD_op, arunD_gt, arunD_gf, aq_some, isB_t, isB_u, isB_f, isB_g, ifB_t, ifB_f, thenQ_n, thenQ_x, thenQ_r, inQ_n, inQ_r, inQ_x, retQ_n, retQ_r, exD, AOp.isH, preB, astep, stV, stN, stE, stC, aval, anew, aElems, frzS, frzH, aeff, slots, aret, ares, aress, AV.isTup, ofC_i, ofC_b, ofC_s, ofC_U, getD_mapU, getD_Bs, Bs_len, Int.toNat_natCast, opd, pt, tk, subp, rdP, Rt.size, Rt.isAgg, Rt.zv, aBin, aInt, aStr, arI, aUn, aToInt, aToStr, aIdxS, zv, aIdxA, aIa, aIaA, aFa, aLd, aFld, pparts, aLo, aHi, cutL, aSlS, aSl, aExt, aNck, AV.isStr, aLen, AV.one, AV.multi, pureB, szOk, psz, drp, spl, aEqB, aEqA, aMm, aMkfn, aMkif, aBuild, toV, aBuildA, wrP, unparts, view, nilS, St.ev, lk, St.put, St.pin, acall0, acall1, acall2, acall3, bor, bor0, bor1, phiL_nil, phiL_at, tau, lentO, okIds, flatC, flatB, flatOs, flatO, place, setAll_nil, setAll_cons, nodupB, renObj, closeIds, addNew, idsOf, idsObj, posOf, ↓reduceIte, Option.isSome_none, Option.isSome_some, Bool.or_true, Bool.true_or,  Nat.reduceEqDiff, Nat.reduceBEq, Nat.reduceSub, Nat.reduceLT, beq_self_eq_true, List.map, List.set, List.map_cons, List.map_nil, List.flatMap_cons, List.flatMap_nil, List.flatten_cons, List.flatten_nil, true_and, and_true, List.length_cons, List.length_nil, Nat.reduceAdd, Nat.reduceLeDiff, List.nil_append, List.cons_append, List.append_nil, Option.map, mapO, ren, kp, kpI, ent, nilG, Option.bind, List.range, List.range.loop, List.getElem?_cons_zero, List.getElem?_cons_succ, List.getElem?_nil, List.getD_cons_zero, List.getD_cons_succ, List.drop_zero, List.drop_succ_cons, List.drop_nil, List.take_zero, List.take_succ_cons, List.all_cons, List.all_nil, List.isEmpty_nil, List.isEmpty_cons, Bool.and_true, Bool.true_and, Bool.not_true, Bool.not_false, List.contains_nil, reduceCtorEq, List.contains_cons, Bool.or_false, Bool.false_or, eq_self, forall_const, false_implies, Bool.false_eq_true, Nat.le_refl, List.length_map, List.length_set, List.length_replicate, and_self, implies_true]
        refine ⟨by simp [idV], ?_⟩
        simp only [finP, finI, closeIds, addNew, idsOf, List.flatMap_nil, List.flatMap_cons, List.append_nil, List.nil_append, List.take_zero, nodupB, posOf, idsObj, List.getD_cons_zero, List.getD_cons_succ, List.range, List.range.loop, ren, lentO, mapO, Option.map, ↓reduceIte, Nat.reduceEqDiff, true_and, and_true, List.getElem?_cons_zero, List.getElem?_cons_succ, Nat.reduceAdd, List.contains_nil, Bool.not_false, Bool.and_true, List.map_nil, List.map_cons, List.take_succ_cons]
  · cases hs
end Go.Proofs.Ytbefhofmbiedgaa
