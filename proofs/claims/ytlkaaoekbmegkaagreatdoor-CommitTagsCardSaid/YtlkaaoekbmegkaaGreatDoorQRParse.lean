import Derived.Test.YtlkaaoekbmegkaaGreatDoorQFCom4
import Derived.Test.YtlkaaoekbmegkaaGreatDoorQFFDec
/- The document's reading of a sum's text, on abstract values. -/
namespace Go.Proofs.YtlkaaoekbmegkaaGreatDoor
set_option linter.all false
open Go.RowKit
/-! tramway/tramwayref02.Parse -/
def b_rprs_0 : ACode := (.seq (.seq (.reg none [⟨(some 16), (.mv (.t 7)), none⟩, ⟨(some 17), (.bin .lss (.t 16) (.c (.int .i64 256))), none⟩]) (.cond (.t 17) .skip (.exit 2))) (.seq (.block 3 (.seq (.reg (some [(0, false), (1, false), (2, false), (3, false), (4, false), (5, false), (6, false), (7, true), (8, true), (9, false), (10, false), (11, false), (12, false), (13, false), (14, false), (15, false), (16, false), (17, true), (18, true)]) [⟨(some 20), (.mv (.t 0)), none⟩, ⟨(some 21), (.mv (.t 5)), none⟩, ⟨(some 22), (.bin .mul (.c (.int .i64 2)) (.t 21)), none⟩, ⟨(some 23), (.idxS (.t 20) (.t 22)), none⟩, ⟨(some 24), (.mv (.t 7)), none⟩, ⟨(some 25), (.bin .quo (.t 24) (.c (.int .i64 16))), none⟩, ⟨(some 26), (.call 66 [(.t 25)]), none⟩, ⟨(some 27), (.bin .eql (.t 23) (.t 26)), none⟩, ⟨(some 28), (.mv (.t 27)), none⟩, ⟨(some 29), (.mv (.t 0)), (some (28, true))⟩, ⟨(some 30), (.mv (.t 5)), (some (28, true))⟩, ⟨(some 31), (.bin .mul (.c (.int .i64 2)) (.t 30)), (some (28, true))⟩, ⟨(some 32), (.bin .add (.t 31) (.c (.int .i64 1))), (some (28, true))⟩, ⟨(some 33), (.idxS (.t 29) (.t 32)), (some (28, true))⟩, ⟨(some 34), (.mv (.t 7)), (some (28, true))⟩, ⟨(some 35), (.bin .rem (.t 34) (.c (.int .i64 16))), (some (28, true))⟩, ⟨(some 36), (.call 66 [(.t 35)]), (some (28, true))⟩, ⟨(some 37), (.bin .eql (.t 33) (.t 36)), (some (28, true))⟩, ⟨(some 38), (.pick (.t 28) (.t 37) (.c (.bool false))), none⟩]) (.cond (.t 38) (.seq (.reg none [⟨(some 39), (.mv (.t 5)), none⟩, ⟨(some 40), (.mv (.t 7)), none⟩, ⟨(some 41), (.toInt .u8 (.t 40)), none⟩, ⟨(some 42), (.iaA 20 (.t 4) (.t 39)), none⟩, ⟨none, (.st (.one (.int .u8 0)) (.t 42) (.t 41)), none⟩]) (.reg none [⟨(some 6), (.mv (.c (.bool true))), none⟩])) .skip))) (.reg none [⟨(some 18), (.mv (.t 7)), none⟩, ⟨(some 19), (.bin .add (.t 18) (.c (.int .i64 1))), none⟩, ⟨(some 7), (.mv (.t 19)), none⟩])))
def t_rprs_0 : ACode := (.seq (.reg none [⟨(some 43), (.mv (.t 6)), none⟩, ⟨(some 44), (.un .not (.t 43)), none⟩]) (.cond (.t 44) (.seq (.reg none [⟨(some 45), (.buildA (List.replicate 20 (.int .u8 0)) []), none⟩, ⟨none, (.st (.arr 20) (.t 2) (.t 45)), none⟩, ⟨(some 3), (.mv (.c (.bool false))), none⟩]) .ret) .skip))
def t_rprs_1 : ACode := (.reg none [⟨(some 14), (.mv (.t 5)), none⟩, ⟨(some 15), (.bin .add (.t 14) (.c (.int .i64 1))), none⟩, ⟨(some 5), (.mv (.t 15)), none⟩])
def b_rprs_1 : ACode := (.seq (.seq (.reg none [⟨(some 12), (.mv (.t 5)), none⟩, ⟨(some 13), (.bin .lss (.t 12) (.c (.int .i64 20))), none⟩]) (.cond (.t 13) .skip (.exit 0))) (.seq (.block 1 (.seq (.reg none [⟨(some 6), (.mv (.c (.bool false))), none⟩]) (.seq (.seq (.reg none [⟨(some 7), (.mv (.c (.int .i64 0))), none⟩]) (.block 2 (.loop b_rprs_0))) t_rprs_0))) t_rprs_1))
def t_rprs_2 : ACode := (.seq (.reg none [⟨(some 46), (.ld (.arr 20) (.t 4)), none⟩, ⟨none, (.st (.arr 20) (.t 2) (.t 46)), none⟩, ⟨(some 3), (.mv (.c (.bool true))), none⟩]) .ret)
def c_rprs : ACode := (.seq (.reg none [⟨(some 2), (.new 22 [(20, (.blob (List.replicate 20 (.int .u8 0))))]), none⟩, ⟨(some 3), (.mv (.c (.bool false))), none⟩]) (.seq (.reg none [⟨(some 4), (.new 22 [(20, (.blob (List.replicate 20 (.int .u8 0))))]), none⟩]) (.seq (.seq (.reg none [⟨(some 8), (.mv (.t 0)), none⟩, ⟨(some 9), (.len none true (.t 8)), none⟩, ⟨(some 10), (.bin .neq (.t 9) (.c (.int .i64 40))), none⟩]) (.cond (.t 10) (.seq (.reg none [⟨(some 11), (.ld (.arr 20) (.t 4)), none⟩, ⟨none, (.st (.arr 20) (.t 2) (.t 11)), none⟩, ⟨(some 3), (.mv (.c (.bool false))), none⟩]) .ret) .skip)) (.seq (.seq (.reg none [⟨(some 5), (.mv (.c (.int .i64 0))), none⟩]) (.block 0 (.loop b_rprs_1))) t_rprs_2))))
def r_rprs : List ARes := [(.c 2 (.arr 20)), (.t 3)]
theorem s_rprs : slimF Tryz.prog Tryz.f55 = some (c_rprs, r_rprs) := by kernel_rfl

abbrev phiD : Phi := phiL [(66, [], digitS)]
theorem phiD_at : phiD 66 = some ([], digitS) := rfl
/-- The i-th pair of letters has a value. -/
def okP (l : List UInt8) (i : Nat) : Prop := 0 ≤ dv (l.getD (2 * i) 0) ∧ 0 ≤ dv (l.getD (2 * i + 1) 0)
instance (l : List UInt8) (i : Nat) : Decidable (okP l i) := inferInstanceAs (Decidable (_ ∧ _))
def valP (l : List UInt8) (i : Nat) : Nat := 16 * (dv (l.getD (2 * i) 0)).toNat + (dv (l.getD (2 * i + 1) 0)).toNat
/-- The bytes read from the first i pairs. -/
def idV (l : List UInt8) (i : Nat) : List Value := (List.range i).map (fun j => Value.int .u8 (valP l j : Int)) ++ List.replicate (20 - i) (.int .u8 0)
/-- The cells while the i-th pair is looked for below n. -/
def idW (l : List UInt8) (i n : Nat) : List Value := (List.range i).map (fun j => Value.int .u8 (valP l j : Int)) ++ [.int .u8 (if okP l i ∧ valP l i < n then (valP l i : Int) else 0)] ++ List.replicate (19 - i) (.int .u8 0)
def stP (l : List UInt8) (i n : Nat) : St := ⟨[(0, .str l), (2, .ref 0 0 0), (3, .bool false), (4, .ref 1 0 0), (5, .int .i64 (i : Int)), (6, .bool (decide (okP l i ∧ valP l i < n))), (7, .int .i64 (n : Int))],
  [.cells 22 [(20, .blob (List.replicate 20 (.int .u8 0)))], .cells 22 [(20, .blob (idW l i n))]]⟩
theorem dvN (c : UInt8) (k : Nat) (h : k < 16) : ((c.toNat : Int) = digN (k : Int)) ↔ dv c = (k : Int) := by
  rw [digN_digs ⟨k, h⟩]
  constructor
  · intro e
    have : c = digs.getD k 0 := UInt8.toNat_inj.1 (Int.ofNat.inj e)
    rw [this]; exact dv_dig k h
  · intro e
    have := dig_dv c (by omega)
    rw [e] at this
    simp only [Int.toNat_natCast] at this
    simp only [this]
theorem idW_len (l : List UInt8) (i n : Nat) (h : i < 20) : (idW l i n).length = 20 := by simp [idW]; omega
theorem idW_set (l : List UInt8) (i n : Nat) (v : Value) : (idW l i n).set i v = (List.range i).map (fun j => Value.int .u8 (valP l j : Int)) ++ [v] ++ List.replicate (19 - i) (.int .u8 0) := by
  unfold idW
  rw [List.append_assoc, List.set_append_right _ _ (by simp)]
  simp
theorem rparse_in (l : List UInt8) (i n : Nat) (K : St → Prop) (Q : Exit → St → Prop) (hl : l.length = 40) (hi : i < 20) (hn : n < 256)
    (hK : ∀ s', kp [0, 2, 3, 4, 5, 6, 7] 2 s' = some (stP l i (n + 1)) → K s') : awp phiD 0 b_rprs_0 (thenQ K Q) (stP l i n) := by
  simp only [b_rprs_0, stP, phiD_at, digitS, aIdxS, awp_scope, noG_n, noG_r, noG_x, awp_skip, awp_reg, awp_draw, awp_seq, awp_cond, awp_block, awp_loop, awp_exit, awp_ret, arun_nil, arun_op, arun_gt, arun_gf, arunD_nil, arunD_op, arunD_gt, arunD_gf, aq_some, isB_t, isB_u, isB_f, isB_g, isB_p, isU_t, isU_b, ifB_t, ifB_f, thenQ_n, thenQ_x, thenQ_r, inQ_n, inQ_r, inQ_x, retQ_n, retQ_r, exD, AOp.isH, keepN, preB, avalP, pureR, astep, stV, stN, stE, stC, aval, anew, aElems, frzS, frzH, aeff, slots, aret, ares, aress, AV.isTup, eqFs, aEqS, ofC_i, ofC_b, ofC_s, ofC_U, getD_mapU, getD_Bs, Bs_len, Int.toNat_natCast, opd, pt, tk, subp, rdP, Rt.size, Rt.isAgg, Rt.zv, aBin, aInt, aStr, arI, aUn, aToInt, aToStr, aIdxS, zv, aIdxA, aIa, aIaA, aFa, aLd, aFld, pparts, aLo, aHi, cutL, aSlS, aSl, aExt, aNck, aNilc, AV.isStr, aLen, AV.one, AV.multi, pureB, szOk, psz, drp, spl, aEqB, aEqA, aMm, aMkfn, aMkif, aBuild, toV, aBuildA, wrP, unparts, view, nilS, St.ev, lk, St.put, St.pin, St.pinV, acall0, acall1, acall2, acall3, bor, bor0, bor1, phiL_nil, phiL_at, tau, lentO, okIds, flatC, flatB, flatOs, flatO, flatPs, place, setAll_nil, setAll_cons, nodupB, renObj, closeIds, addNew, idsOf, idsObj, posOf, lenOk_0, lenOk_1, lenOk_2, lenOk_3, lenOk_4, lenOk_8, ↓reduceIte, Option.isSome_none, Option.isSome_some, Bool.or_true, Bool.true_or,  Nat.reduceEqDiff, Nat.reduceBEq, Nat.reduceSub, Nat.reduceLT, beq_self_eq_true, List.map, List.set, List.map_cons, List.map_nil, List.flatMap_cons, List.flatMap_nil, List.flatten_cons, List.flatten_nil, true_and, and_true, List.length_cons, List.length_nil, Nat.reduceAdd, Nat.reduceLeDiff, List.nil_append, List.cons_append, List.append_nil, Option.map, mapO, ren, kp, kpI, ent, nilG, Option.bind, List.range, List.range.loop, List.getElem?_cons_zero, List.getElem?_cons_succ, List.getElem?_nil, List.getD_cons_zero, List.getD_cons_succ, List.drop_zero, List.drop_succ_cons, List.drop_nil, List.take_zero, List.take_succ_cons, List.all_cons, List.all_nil, List.isEmpty_nil, List.isEmpty_cons, Bool.and_true, Bool.true_and, Bool.not_true, Bool.not_false, List.contains_nil, reduceCtorEq, List.contains_cons, Bool.or_false, Bool.false_or, eq_self, forall_const, false_implies, Bool.false_eq_true, Nat.le_refl, List.length_map, List.length_set, List.length_replicate, and_self, implies_true]
  have e0 : (2 * (i : Int)).toNat = 2 * i := by omega
  have e1 : (2 * (i : Int) + 1).toNat = 2 * i + 1 := by omega
  rw [e0, e1, Int.tdiv_eq_ediv_of_nonneg (by omega), Int.tmod_eq_emod_of_nonneg (by omega), idW_len l i n hi, hl]
  have h1 := dvN (l.getD (2 * i) 0) (n / 16) (by omega)
  have h2 := dvN (l.getD (2 * i + 1) 0) (n % 16) (by omega)
  rw [show (n : Int) / 16 = ((n / 16 : Nat) : Int) by omega, show (n : Int) % 16 = ((n % 16 : Nat) : Int) by omega]
  have a1 : at8 l (2 * i) = ((l.getD (2 * i) 0).toNat : Int) := rfl
  have a2 : at8 l (2 * i + 1) = ((l.getD (2 * i + 1) 0).toNat : Int) := rfl
  rw [a1, a2]
  refine ⟨fun _ => ?_, fun hf => absurd (of_decide_eq_false hf) (by omega)⟩
  refine ⟨by simp only [inI]; omega, by omega, ⟨by omega, by simp only [inI]; omega⟩, by omega, fun hd => ?_, fun hd => ?_⟩
  · have hd := h1.1 (of_decide_eq_true hd)
    refine ⟨by simp only [inI]; omega, by simp only [inI]; omega, by omega, by omega, by omega, fun hg => ?_, fun hg => ?_⟩
    · have hg := h2.1 (of_decide_eq_true hg)
      have hok : okP l i := ⟨by rw [hd]; omega, by rw [hg]; omega⟩
      have hv : valP l i = n := by unfold valP; rw [hd, hg]; simp only [Int.toNat_natCast]; omega
      refine ⟨by omega, hi, by simp only [inI]; omega, hK _ ?_⟩
      rw [wrap8 (by omega) (by omega), idW_set]
      simp only [stP, awp_scope, noG_n, noG_r, noG_x, awp_skip, awp_reg, awp_draw, awp_seq, awp_cond, awp_block, awp_loop, awp_exit, awp_ret, arun_nil, arun_op, arun_gt, arun_gf, arunD_nil, arunD_op, arunD_gt, arunD_gf, aq_some, isB_t, isB_u, isB_f, isB_g, isB_p, isU_t, isU_b, ifB_t, ifB_f, thenQ_n, thenQ_x, thenQ_r, inQ_n, inQ_r, inQ_x, retQ_n, retQ_r, exD, AOp.isH, keepN, preB, avalP, pureR, astep, stV, stN, stE, stC, aval, anew, aElems, frzS, frzH, aeff, slots, aret, ares, aress, AV.isTup, eqFs, aEqS, ofC_i, ofC_b, ofC_s, ofC_U, getD_mapU, getD_Bs, Bs_len, Int.toNat_natCast, opd, pt, tk, subp, rdP, Rt.size, Rt.isAgg, Rt.zv, aBin, aInt, aStr, arI, aUn, aToInt, aToStr, aIdxS, zv, aIdxA, aIa, aIaA, aFa, aLd, aFld, pparts, aLo, aHi, cutL, aSlS, aSl, aExt, aNck, aNilc, AV.isStr, aLen, AV.one, AV.multi, pureB, szOk, psz, drp, spl, aEqB, aEqA, aMm, aMkfn, aMkif, aBuild, toV, aBuildA, wrP, unparts, view, nilS, St.ev, lk, St.put, St.pin, St.pinV, acall0, acall1, acall2, acall3, bor, bor0, bor1, phiL_nil, phiL_at, tau, lentO, okIds, flatC, flatB, flatOs, flatO, flatPs, place, setAll_nil, setAll_cons, nodupB, renObj, closeIds, addNew, idsOf, idsObj, posOf, lenOk_0, lenOk_1, lenOk_2, lenOk_3, lenOk_4, lenOk_8, ↓reduceIte, Option.isSome_none, Option.isSome_some, Bool.or_true, Bool.true_or,  Nat.reduceEqDiff, Nat.reduceBEq, Nat.reduceSub, Nat.reduceLT, beq_self_eq_true, List.map, List.set, List.map_cons, List.map_nil, List.flatMap_cons, List.flatMap_nil, List.flatten_cons, List.flatten_nil, true_and, and_true, List.length_cons, List.length_nil, Nat.reduceAdd, Nat.reduceLeDiff, List.nil_append, List.cons_append, List.append_nil, Option.map, mapO, ren, kp, kpI, ent, nilG, Option.bind, List.range, List.range.loop, List.getElem?_cons_zero, List.getElem?_cons_succ, List.getElem?_nil, List.getD_cons_zero, List.getD_cons_succ, List.drop_zero, List.drop_succ_cons, List.drop_nil, List.take_zero, List.take_succ_cons, List.all_cons, List.all_nil, List.isEmpty_nil, List.isEmpty_cons, Bool.and_true, Bool.true_and, Bool.not_true, Bool.not_false, List.contains_nil, reduceCtorEq, List.contains_cons, Bool.or_false, Bool.false_or, eq_self, forall_const, false_implies, Bool.false_eq_true, Nat.le_refl, List.length_map, List.length_set, List.length_replicate, and_self, implies_true]
      have e : decide (okP l i ∧ valP l i < n + 1) = true := decide_eq_true ⟨hok, by omega⟩
      rw [e]
      unfold idW
      rw [if_pos (show okP l i ∧ valP l i < n + 1 from ⟨hok, by omega⟩), hv]
      rfl
    · have hg : ¬ dv (l.getD (2 * i + 1) 0) = ((n % 16 : Nat) : Int) := fun h => of_decide_eq_false hg (h2.2 h)
      have key : (okP l i ∧ valP l i < n + 1) ↔ (okP l i ∧ valP l i < n) := by
        constructor
        · rintro ⟨⟨k1, k2⟩, k3⟩
          refine ⟨⟨k1, k2⟩, ?_⟩
          have b1 := dv_lt (l.getD (2 * i) 0)
          have b2 := dv_lt (l.getD (2 * i + 1) 0)
          unfold valP at k3 ⊢
          clear h1 h2 hK
          generalize dv (l.getD (2 * i) 0) = x at *
          generalize dv (l.getD (2 * i + 1) 0) = y at *
          omega
        · rintro ⟨k1, k3⟩; exact ⟨k1, by omega⟩
      refine ⟨by simp only [inI]; omega, hK _ ?_⟩
      simp only [stP, idW, key, awp_scope, noG_n, noG_r, noG_x, awp_skip, awp_reg, awp_draw, awp_seq, awp_cond, awp_block, awp_loop, awp_exit, awp_ret, arun_nil, arun_op, arun_gt, arun_gf, arunD_nil, arunD_op, arunD_gt, arunD_gf, aq_some, isB_t, isB_u, isB_f, isB_g, isB_p, isU_t, isU_b, ifB_t, ifB_f, thenQ_n, thenQ_x, thenQ_r, inQ_n, inQ_r, inQ_x, retQ_n, retQ_r, exD, AOp.isH, keepN, preB, avalP, pureR, astep, stV, stN, stE, stC, aval, anew, aElems, frzS, frzH, aeff, slots, aret, ares, aress, AV.isTup, eqFs, aEqS, ofC_i, ofC_b, ofC_s, ofC_U, getD_mapU, getD_Bs, Bs_len, Int.toNat_natCast, opd, pt, tk, subp, rdP, Rt.size, Rt.isAgg, Rt.zv, aBin, aInt, aStr, arI, aUn, aToInt, aToStr, aIdxS, zv, aIdxA, aIa, aIaA, aFa, aLd, aFld, pparts, aLo, aHi, cutL, aSlS, aSl, aExt, aNck, aNilc, AV.isStr, aLen, AV.one, AV.multi, pureB, szOk, psz, drp, spl, aEqB, aEqA, aMm, aMkfn, aMkif, aBuild, toV, aBuildA, wrP, unparts, view, nilS, St.ev, lk, St.put, St.pin, St.pinV, acall0, acall1, acall2, acall3, bor, bor0, bor1, phiL_nil, phiL_at, tau, lentO, okIds, flatC, flatB, flatOs, flatO, flatPs, place, setAll_nil, setAll_cons, nodupB, renObj, closeIds, addNew, idsOf, idsObj, posOf, lenOk_0, lenOk_1, lenOk_2, lenOk_3, lenOk_4, lenOk_8, ↓reduceIte, Option.isSome_none, Option.isSome_some, Bool.or_true, Bool.true_or,  Nat.reduceEqDiff, Nat.reduceBEq, Nat.reduceSub, Nat.reduceLT, beq_self_eq_true, List.map, List.set, List.map_cons, List.map_nil, List.flatMap_cons, List.flatMap_nil, List.flatten_cons, List.flatten_nil, true_and, and_true, List.length_cons, List.length_nil, Nat.reduceAdd, Nat.reduceLeDiff, List.nil_append, List.cons_append, List.append_nil, Option.map, mapO, ren, kp, kpI, ent, nilG, Option.bind, List.range, List.range.loop, List.getElem?_cons_zero, List.getElem?_cons_succ, List.getElem?_nil, List.getD_cons_zero, List.getD_cons_succ, List.drop_zero, List.drop_succ_cons, List.drop_nil, List.take_zero, List.take_succ_cons, List.all_cons, List.all_nil, List.isEmpty_nil, List.isEmpty_cons, Bool.and_true, Bool.true_and, Bool.not_true, Bool.not_false, List.contains_nil, reduceCtorEq, List.contains_cons, Bool.or_false, Bool.false_or, eq_self, forall_const, false_implies, Bool.false_eq_true, Nat.le_refl, List.length_map, List.length_set, List.length_replicate, and_self, implies_true]
      rfl
  · have hd : ¬ dv (l.getD (2 * i) 0) = ((n / 16 : Nat) : Int) := fun h => of_decide_eq_false hd (h1.2 h)
    have key : (okP l i ∧ valP l i < n + 1) ↔ (okP l i ∧ valP l i < n) := by
      constructor
      · rintro ⟨⟨k1, k2⟩, k3⟩
        refine ⟨⟨k1, k2⟩, ?_⟩
        have b1 := dv_lt (l.getD (2 * i) 0)
        have b2 := dv_lt (l.getD (2 * i + 1) 0)
        unfold valP at k3 ⊢
        clear h1 h2 hK
        generalize dv (l.getD (2 * i) 0) = x at *
        generalize dv (l.getD (2 * i + 1) 0) = y at *
        omega
      · rintro ⟨k1, k3⟩; exact ⟨k1, by omega⟩
    refine ⟨by simp only [inI]; omega, hK _ ?_⟩
    simp only [stP, idW, key, awp_scope, noG_n, noG_r, noG_x, awp_skip, awp_reg, awp_draw, awp_seq, awp_cond, awp_block, awp_loop, awp_exit, awp_ret, arun_nil, arun_op, arun_gt, arun_gf, arunD_nil, arunD_op, arunD_gt, arunD_gf, aq_some, isB_t, isB_u, isB_f, isB_g, isB_p, isU_t, isU_b, ifB_t, ifB_f, thenQ_n, thenQ_x, thenQ_r, inQ_n, inQ_r, inQ_x, retQ_n, retQ_r, exD, AOp.isH, keepN, preB, avalP, pureR, astep, stV, stN, stE, stC, aval, anew, aElems, frzS, frzH, aeff, slots, aret, ares, aress, AV.isTup, eqFs, aEqS, ofC_i, ofC_b, ofC_s, ofC_U, getD_mapU, getD_Bs, Bs_len, Int.toNat_natCast, opd, pt, tk, subp, rdP, Rt.size, Rt.isAgg, Rt.zv, aBin, aInt, aStr, arI, aUn, aToInt, aToStr, aIdxS, zv, aIdxA, aIa, aIaA, aFa, aLd, aFld, pparts, aLo, aHi, cutL, aSlS, aSl, aExt, aNck, aNilc, AV.isStr, aLen, AV.one, AV.multi, pureB, szOk, psz, drp, spl, aEqB, aEqA, aMm, aMkfn, aMkif, aBuild, toV, aBuildA, wrP, unparts, view, nilS, St.ev, lk, St.put, St.pin, St.pinV, acall0, acall1, acall2, acall3, bor, bor0, bor1, phiL_nil, phiL_at, tau, lentO, okIds, flatC, flatB, flatOs, flatO, flatPs, place, setAll_nil, setAll_cons, nodupB, renObj, closeIds, addNew, idsOf, idsObj, posOf, lenOk_0, lenOk_1, lenOk_2, lenOk_3, lenOk_4, lenOk_8, ↓reduceIte, Option.isSome_none, Option.isSome_some, Bool.or_true, Bool.true_or,  Nat.reduceEqDiff, Nat.reduceBEq, Nat.reduceSub, Nat.reduceLT, beq_self_eq_true, List.map, List.set, List.map_cons, List.map_nil, List.flatMap_cons, List.flatMap_nil, List.flatten_cons, List.flatten_nil, true_and, and_true, List.length_cons, List.length_nil, Nat.reduceAdd, Nat.reduceLeDiff, List.nil_append, List.cons_append, List.append_nil, Option.map, mapO, ren, kp, kpI, ent, nilG, Option.bind, List.range, List.range.loop, List.getElem?_cons_zero, List.getElem?_cons_succ, List.getElem?_nil, List.getD_cons_zero, List.getD_cons_succ, List.drop_zero, List.drop_succ_cons, List.drop_nil, List.take_zero, List.take_succ_cons, List.all_cons, List.all_nil, List.isEmpty_nil, List.isEmpty_cons, Bool.and_true, Bool.true_and, Bool.not_true, Bool.not_false, List.contains_nil, reduceCtorEq, List.contains_cons, Bool.or_false, Bool.false_or, eq_self, forall_const, false_implies, Bool.false_eq_true, Nat.le_refl, List.length_map, List.length_set, List.length_replicate, and_self, implies_true]
    rfl
end Go.Proofs.YtlkaaoekbmegkaaGreatDoor
/- The document's reading of a sum's text, on abstract values: the whole function. -/
namespace Go.Proofs.YtlkaaoekbmegkaaGreatDoor
set_option linter.all false
open Go.RowKit
def goodP (l : List UInt8) : Bool := decide (l.length = 40) && (List.range 20).all fun i => decide (okP l i)
def rOut (l : List UInt8) : List UInt8 := if goodP l = true then (List.range 20).map (fun j => UInt8.ofNat (valP l j)) else List.replicate 20 0
theorem valP_lt (l : List UInt8) (j : Nat) : valP l j < 256 := by
  have b1 := dv_lt (l.getD (2 * j) 0)
  have b2 := dv_lt (l.getD (2 * j + 1) 0)
  unfold valP; omega
theorem rOut_U (l : List UInt8) : (rOut l).map U = if goodP l = true then idV l 20 else List.replicate 20 (.int .u8 0) := by
  unfold rOut
  split
  · unfold idV
    rw [List.map_map, Nat.sub_self, List.replicate_zero, List.append_nil]
    refine List.map_congr_left fun j _ => ?_
    have := valP_lt l j
    show Value.int .u8 ((UInt8.ofNat (valP l j)).toNat : Int) = _
    rw [UInt8.toNat_ofNat', Nat.mod_eq_of_lt this]
  · rfl
def rparseS : Spec := fun xs hp => match xs, hp with
  | [.str l], [] => some ⟨.tup [.blob ((rOut l).map U), .bool (goodP l)], [], l.length ≤ 1000000000⟩
  | _, _ => none
theorem idW_zero (l : List UInt8) (i : Nat) (h : i < 20) : idW l i 0 = idV l i := by
  unfold idW idV
  rw [if_neg (by omega), show 20 - i = (19 - i) + 1 by omega, List.replicate_succ]
  simp
def stQ (l : List UInt8) (i : Nat) : St := ⟨[(0, .str l), (2, .ref 0 0 0), (3, .bool false), (4, .ref 1 0 0), (5, .int .i64 (i : Int))], [.cells 22 [(20, .blob (List.replicate 20 (.int .u8 0)))], .cells 22 [(20, .blob (idV l i))]]⟩
theorem rprs_round (l : List UInt8) (i : Nat) (K : St → Prop) (R : Ret) (hl : l.length = 40) (hi : i < 20) (hR : ¬ okP l i → R = ⟨.tup [.blob (List.replicate 20 (.int .u8 0)), .bool false], [], R.pre⟩)
    (hK : okP l i → ∀ s', kp [0, 2, 3, 4, 5] 2 s' = some (stQ l (i + 1)) → K s') : awp phiD 0 b_rprs_1 (thenQ K (inQ 0 (thenQ (awp phiD 0 t_rprs_2 (retQ r_rprs 0 R)) (retQ r_rprs 0 R)))) (stQ l i) := by
  generalize hQ2 : thenQ (awp phiD 0 t_rprs_2 (retQ r_rprs 0 R)) (retQ r_rprs 0 R) = Q2
  have hret : ∀ s, Q2 .ret s = finP 0 R s (aret s r_rprs) := by intro s; subst hQ2; rfl
  simp only [b_rprs_1, stQ, awp_scope, noG_n, noG_r, noG_x, awp_skip, awp_reg, awp_draw, awp_seq, awp_cond, awp_block, awp_loop, awp_exit, awp_ret, arun_nil, arun_op, arun_gt, arun_gf, arunD_nil, arunD_op, arunD_gt, arunD_gf, aq_some, isB_t, isB_u, isB_f, isB_g, isB_p, isU_t, isU_b, ifB_t, ifB_f, thenQ_n, thenQ_x, thenQ_r, inQ_n, inQ_r, inQ_x, retQ_n, retQ_r, exD, AOp.isH, keepN, preB, avalP, pureR, astep, stV, stN, stE, stC, aval, anew, aElems, frzS, frzH, aeff, slots, aret, ares, aress, AV.isTup, eqFs, aEqS, ofC_i, ofC_b, ofC_s, ofC_U, getD_mapU, getD_Bs, Bs_len, Int.toNat_natCast, opd, pt, tk, subp, rdP, Rt.size, Rt.isAgg, Rt.zv, aBin, aInt, aStr, arI, aUn, aToInt, aToStr, aIdxS, zv, aIdxA, aIa, aIaA, aFa, aLd, aFld, pparts, aLo, aHi, cutL, aSlS, aSl, aExt, aNck, aNilc, AV.isStr, aLen, AV.one, AV.multi, pureB, szOk, psz, drp, spl, aEqB, aEqA, aMm, aMkfn, aMkif, aBuild, toV, aBuildA, wrP, unparts, view, nilS, St.ev, lk, St.put, St.pin, St.pinV, acall0, acall1, acall2, acall3, bor, bor0, bor1, phiL_nil, phiL_at, tau, lentO, okIds, flatC, flatB, flatOs, flatO, flatPs, place, setAll_nil, setAll_cons, nodupB, renObj, closeIds, addNew, idsOf, idsObj, posOf, lenOk_0, lenOk_1, lenOk_2, lenOk_3, lenOk_4, lenOk_8, ↓reduceIte, Option.isSome_none, Option.isSome_some, Bool.or_true, Bool.true_or,  Nat.reduceEqDiff, Nat.reduceBEq, Nat.reduceSub, Nat.reduceLT, beq_self_eq_true, List.map, List.set, List.map_cons, List.map_nil, List.flatMap_cons, List.flatMap_nil, List.flatten_cons, List.flatten_nil, true_and, and_true, List.length_cons, List.length_nil, Nat.reduceAdd, Nat.reduceLeDiff, List.nil_append, List.cons_append, List.append_nil, Option.map, mapO, ren, kp, kpI, ent, nilG, Option.bind, List.range, List.range.loop, List.getElem?_cons_zero, List.getElem?_cons_succ, List.getElem?_nil, List.getD_cons_zero, List.getD_cons_succ, List.drop_zero, List.drop_succ_cons, List.drop_nil, List.take_zero, List.take_succ_cons, List.all_cons, List.all_nil, List.isEmpty_nil, List.isEmpty_cons, Bool.and_true, Bool.true_and, Bool.not_true, Bool.not_false, List.contains_nil, reduceCtorEq, List.contains_cons, Bool.or_false, Bool.false_or, eq_self, forall_const, false_implies, Bool.false_eq_true, Nat.le_refl, List.length_map, List.length_set, List.length_replicate, and_self, implies_true]
  refine ⟨fun _ => ?_, fun hf => absurd (of_decide_eq_false hf) (by omega)⟩
  refine loop_at [] [0, 2, 3, 4, 5, 6, 7] [0, 1] (fun n : Nat => stP l i n) (fun n => n ≤ 256) (fun n => 256 - n) 0
    (by simp only [stP, idW_zero l i hi, awp_scope, noG_n, noG_r, noG_x, awp_skip, awp_reg, awp_draw, awp_seq, awp_cond, awp_block, awp_loop, awp_exit, awp_ret, arun_nil, arun_op, arun_gt, arun_gf, arunD_nil, arunD_op, arunD_gt, arunD_gf, aq_some, isB_t, isB_u, isB_f, isB_g, isB_p, isU_t, isU_b, ifB_t, ifB_f, thenQ_n, thenQ_x, thenQ_r, inQ_n, inQ_r, inQ_x, retQ_n, retQ_r, exD, AOp.isH, keepN, preB, avalP, pureR, astep, stV, stN, stE, stC, aval, anew, aElems, frzS, frzH, aeff, slots, aret, ares, aress, AV.isTup, eqFs, aEqS, ofC_i, ofC_b, ofC_s, ofC_U, getD_mapU, getD_Bs, Bs_len, Int.toNat_natCast, opd, pt, tk, subp, rdP, Rt.size, Rt.isAgg, Rt.zv, aBin, aInt, aStr, arI, aUn, aToInt, aToStr, aIdxS, zv, aIdxA, aIa, aIaA, aFa, aLd, aFld, pparts, aLo, aHi, cutL, aSlS, aSl, aExt, aNck, aNilc, AV.isStr, aLen, AV.one, AV.multi, pureB, szOk, psz, drp, spl, aEqB, aEqA, aMm, aMkfn, aMkif, aBuild, toV, aBuildA, wrP, unparts, view, nilS, St.ev, lk, St.put, St.pin, St.pinV, acall0, acall1, acall2, acall3, bor, bor0, bor1, phiL_nil, phiL_at, tau, lentO, okIds, flatC, flatB, flatOs, flatO, flatPs, place, setAll_nil, setAll_cons, nodupB, renObj, closeIds, addNew, idsOf, idsObj, posOf, lenOk_0, lenOk_1, lenOk_2, lenOk_3, lenOk_4, lenOk_8, ↓reduceIte, Option.isSome_none, Option.isSome_some, Bool.or_true, Bool.true_or,  Nat.reduceEqDiff, Nat.reduceBEq, Nat.reduceSub, Nat.reduceLT, beq_self_eq_true, List.map, List.set, List.map_cons, List.map_nil, List.flatMap_cons, List.flatMap_nil, List.flatten_cons, List.flatten_nil, true_and, and_true, List.length_cons, List.length_nil, Nat.reduceAdd, Nat.reduceLeDiff, List.nil_append, List.cons_append, List.append_nil, Option.map, mapO, ren, kp, kpI, ent, nilG, Option.bind, List.range, List.range.loop, List.getElem?_cons_zero, List.getElem?_cons_succ, List.getElem?_nil, List.getD_cons_zero, List.getD_cons_succ, List.drop_zero, List.drop_succ_cons, List.drop_nil, List.take_zero, List.take_succ_cons, List.all_cons, List.all_nil, List.isEmpty_nil, List.isEmpty_cons, Bool.and_true, Bool.true_and, Bool.not_true, Bool.not_false, List.contains_nil, reduceCtorEq, List.contains_cons, Bool.or_false, Bool.false_or, eq_self, forall_const, false_implies, Bool.false_eq_true, Nat.le_refl, List.length_map, List.length_set, List.length_replicate, and_self, implies_true]; simp) (by omega) ⟨rfl, rfl⟩ (fun n hn => ?_)
  by_cases hlt : n < 256
  · exact rparse_in l i n _ _ hl hi hlt fun s' hs' => ⟨n + 1, by omega, by omega, hs'⟩
  · have hn : n = 256 := by omega
    subst hn
    have hf : decide (((256 : Nat) : Int) < 256) = false := rfl
    simp only [b_rprs_0, t_rprs_0, t_rprs_1, stP, hf, hret, r_rprs, awp_scope, noG_n, noG_r, noG_x, awp_skip, awp_reg, awp_draw, awp_seq, awp_cond, awp_block, awp_loop, awp_exit, awp_ret, arun_nil, arun_op, arun_gt, arun_gf, arunD_nil, arunD_op, arunD_gt, arunD_gf, aq_some, isB_t, isB_u, isB_f, isB_g, isB_p, isU_t, isU_b, ifB_t, ifB_f, thenQ_n, thenQ_x, thenQ_r, inQ_n, inQ_r, inQ_x, retQ_n, retQ_r, exD, AOp.isH, keepN, preB, avalP, pureR, astep, stV, stN, stE, stC, aval, anew, aElems, frzS, frzH, aeff, slots, aret, ares, aress, AV.isTup, eqFs, aEqS, ofC_i, ofC_b, ofC_s, ofC_U, getD_mapU, getD_Bs, Bs_len, Int.toNat_natCast, opd, pt, tk, subp, rdP, Rt.size, Rt.isAgg, Rt.zv, aBin, aInt, aStr, arI, aUn, aToInt, aToStr, aIdxS, zv, aIdxA, aIa, aIaA, aFa, aLd, aFld, pparts, aLo, aHi, cutL, aSlS, aSl, aExt, aNck, aNilc, AV.isStr, aLen, AV.one, AV.multi, pureB, szOk, psz, drp, spl, aEqB, aEqA, aMm, aMkfn, aMkif, aBuild, toV, aBuildA, wrP, unparts, view, nilS, St.ev, lk, St.put, St.pin, St.pinV, acall0, acall1, acall2, acall3, bor, bor0, bor1, phiL_nil, phiL_at, tau, lentO, okIds, flatC, flatB, flatOs, flatO, flatPs, place, setAll_nil, setAll_cons, nodupB, renObj, closeIds, addNew, idsOf, idsObj, posOf, lenOk_0, lenOk_1, lenOk_2, lenOk_3, lenOk_4, lenOk_8, ↓reduceIte, Option.isSome_none, Option.isSome_some, Bool.or_true, Bool.true_or,  Nat.reduceEqDiff, Nat.reduceBEq, Nat.reduceSub, Nat.reduceLT, beq_self_eq_true, List.map, List.set, List.map_cons, List.map_nil, List.flatMap_cons, List.flatMap_nil, List.flatten_cons, List.flatten_nil, true_and, and_true, List.length_cons, List.length_nil, Nat.reduceAdd, Nat.reduceLeDiff, List.nil_append, List.cons_append, List.append_nil, Option.map, mapO, ren, kp, kpI, ent, nilG, Option.bind, List.range, List.range.loop, List.getElem?_cons_zero, List.getElem?_cons_succ, List.getElem?_nil, List.getD_cons_zero, List.getD_cons_succ, List.drop_zero, List.drop_succ_cons, List.drop_nil, List.take_zero, List.take_succ_cons, List.all_cons, List.all_nil, List.isEmpty_nil, List.isEmpty_cons, Bool.and_true, Bool.true_and, Bool.not_true, Bool.not_false, List.contains_nil, reduceCtorEq, List.contains_cons, Bool.or_false, Bool.false_or, eq_self, forall_const, false_implies, Bool.false_eq_true, Nat.le_refl, List.length_map, List.length_set, List.length_replicate, and_self, implies_true]
    have hv : valP l i < 256 := by
      have b1 := dv_lt (l.getD (2 * i) 0)
      have b2 := dv_lt (l.getD (2 * i + 1) 0)
      unfold valP; omega
    by_cases hok : okP l i
    · have hd : decide (okP l i ∧ valP l i < 256) = true := decide_eq_true ⟨hok, hv⟩
      rw [hd]
      refine ⟨fun h => absurd h (by simp), fun _ => ⟨by simp only [inI]; omega, hK hok _ ?_⟩⟩
      simp only [stQ, awp_scope, noG_n, noG_r, noG_x, awp_skip, awp_reg, awp_draw, awp_seq, awp_cond, awp_block, awp_loop, awp_exit, awp_ret, arun_nil, arun_op, arun_gt, arun_gf, arunD_nil, arunD_op, arunD_gt, arunD_gf, aq_some, isB_t, isB_u, isB_f, isB_g, isB_p, isU_t, isU_b, ifB_t, ifB_f, thenQ_n, thenQ_x, thenQ_r, inQ_n, inQ_r, inQ_x, retQ_n, retQ_r, exD, AOp.isH, keepN, preB, avalP, pureR, astep, stV, stN, stE, stC, aval, anew, aElems, frzS, frzH, aeff, slots, aret, ares, aress, AV.isTup, eqFs, aEqS, ofC_i, ofC_b, ofC_s, ofC_U, getD_mapU, getD_Bs, Bs_len, Int.toNat_natCast, opd, pt, tk, subp, rdP, Rt.size, Rt.isAgg, Rt.zv, aBin, aInt, aStr, arI, aUn, aToInt, aToStr, aIdxS, zv, aIdxA, aIa, aIaA, aFa, aLd, aFld, pparts, aLo, aHi, cutL, aSlS, aSl, aExt, aNck, aNilc, AV.isStr, aLen, AV.one, AV.multi, pureB, szOk, psz, drp, spl, aEqB, aEqA, aMm, aMkfn, aMkif, aBuild, toV, aBuildA, wrP, unparts, view, nilS, St.ev, lk, St.put, St.pin, St.pinV, acall0, acall1, acall2, acall3, bor, bor0, bor1, phiL_nil, phiL_at, tau, lentO, okIds, flatC, flatB, flatOs, flatO, flatPs, place, setAll_nil, setAll_cons, nodupB, renObj, closeIds, addNew, idsOf, idsObj, posOf, lenOk_0, lenOk_1, lenOk_2, lenOk_3, lenOk_4, lenOk_8, ↓reduceIte, Option.isSome_none, Option.isSome_some, Bool.or_true, Bool.true_or,  Nat.reduceEqDiff, Nat.reduceBEq, Nat.reduceSub, Nat.reduceLT, beq_self_eq_true, List.map, List.set, List.map_cons, List.map_nil, List.flatMap_cons, List.flatMap_nil, List.flatten_cons, List.flatten_nil, true_and, and_true, List.length_cons, List.length_nil, Nat.reduceAdd, Nat.reduceLeDiff, List.nil_append, List.cons_append, List.append_nil, Option.map, mapO, ren, kp, kpI, ent, nilG, Option.bind, List.range, List.range.loop, List.getElem?_cons_zero, List.getElem?_cons_succ, List.getElem?_nil, List.getD_cons_zero, List.getD_cons_succ, List.drop_zero, List.drop_succ_cons, List.drop_nil, List.take_zero, List.take_succ_cons, List.all_cons, List.all_nil, List.isEmpty_nil, List.isEmpty_cons, Bool.and_true, Bool.true_and, Bool.not_true, Bool.not_false, List.contains_nil, reduceCtorEq, List.contains_cons, Bool.or_false, Bool.false_or, eq_self, forall_const, false_implies, Bool.false_eq_true, Nat.le_refl, List.length_map, List.length_set, List.length_replicate, and_self, implies_true]
      have hw : idW l i 256 = idV l (i + 1) := by
        unfold idW idV
        rw [if_pos ⟨hok, hv⟩, List.range_succ, List.map_append, show 20 - (i + 1) = 19 - i by omega]
        rfl
      rw [hw]
      rfl
    · have hd : decide (okP l i ∧ valP l i < 256) = false := decide_eq_false fun h => hok h.1
      rw [hd]
      refine ⟨fun _ => ?_, fun h => absurd h (by simp)⟩
      rw [hR hok]
      simp only [Bool.false_eq_true, renObj, finP, finI, closeIds, addNew, idsOf, List.flatMap_nil, List.flatMap_cons, List.append_nil, List.nil_append, List.take_zero, nodupB, posOf, idsObj, List.getD_cons_zero, List.getD_cons_succ, List.range, List.range.loop, ren, lentO, mapO, Option.map, ↓reduceIte, Nat.reduceEqDiff, true_and, and_true, List.getElem?_cons_zero, List.getElem?_cons_succ, Nat.reduceAdd, List.contains_nil, Bool.not_false, Bool.and_true, List.map_nil, List.map_cons, List.take_succ_cons]
theorem rparse_ok : FnOk Tryz.prog 55 rparseS := by
  refine fn_slim Tryz.func55 s_rprs (Φ := phiD) (phi_cons digit_ok (by kernel_rfl) phi_nil) ?_
  intro xs hp r hs hp'
  unfold rparseS at hs
  split at hs
  · injection hs with hs; subst hs
    rename_i l
    refine ⟨len_le (by kernel_rfl), ?_⟩
    have p1 : l.length ≤ 1000000000 := hp'
    clear hp'
    rw [rOut_U]
    obtain ⟨R, hR⟩ : ∃ R, R = Ret.mk (.tup [.blob (if goodP l = true then idV l 20 else List.replicate 20 (.int .u8 0)), .bool (goodP l)]) [] (l.length ≤ 1000000000) := ⟨_, rfl⟩
    rw [← hR]
    simp only [c_rprs, awp_scope, noG_n, noG_r, noG_x, awp_skip, awp_reg, awp_draw, awp_seq, awp_cond, awp_block, awp_loop, awp_exit, awp_ret, arun_nil, arun_op, arun_gt, arun_gf, arunD_nil, arunD_op, arunD_gt, arunD_gf, aq_some, isB_t, isB_u, isB_f, isB_g, isB_p, isU_t, isU_b, ifB_t, ifB_f, thenQ_n, thenQ_x, thenQ_r, inQ_n, inQ_r, inQ_x, retQ_n, retQ_r, exD, AOp.isH, keepN, preB, avalP, pureR, astep, stV, stN, stE, stC, aval, anew, aElems, frzS, frzH, aeff, slots, aret, ares, aress, AV.isTup, eqFs, aEqS, ofC_i, ofC_b, ofC_s, ofC_U, getD_mapU, getD_Bs, Bs_len, Int.toNat_natCast, opd, pt, tk, subp, rdP, Rt.size, Rt.isAgg, Rt.zv, aBin, aInt, aStr, arI, aUn, aToInt, aToStr, aIdxS, zv, aIdxA, aIa, aIaA, aFa, aLd, aFld, pparts, aLo, aHi, cutL, aSlS, aSl, aExt, aNck, aNilc, AV.isStr, aLen, AV.one, AV.multi, pureB, szOk, psz, drp, spl, aEqB, aEqA, aMm, aMkfn, aMkif, aBuild, toV, aBuildA, wrP, unparts, view, nilS, St.ev, lk, St.put, St.pin, St.pinV, acall0, acall1, acall2, acall3, bor, bor0, bor1, phiL_nil, phiL_at, tau, lentO, okIds, flatC, flatB, flatOs, flatO, flatPs, place, setAll_nil, setAll_cons, nodupB, renObj, closeIds, addNew, idsOf, idsObj, posOf, lenOk_0, lenOk_1, lenOk_2, lenOk_3, lenOk_4, lenOk_8, ↓reduceIte, Option.isSome_none, Option.isSome_some, Bool.or_true, Bool.true_or,  Nat.reduceEqDiff, Nat.reduceBEq, Nat.reduceSub, Nat.reduceLT, beq_self_eq_true, List.map, List.set, List.map_cons, List.map_nil, List.flatMap_cons, List.flatMap_nil, List.flatten_cons, List.flatten_nil, true_and, and_true, List.length_cons, List.length_nil, Nat.reduceAdd, Nat.reduceLeDiff, List.nil_append, List.cons_append, List.append_nil, Option.map, mapO, ren, kp, kpI, ent, nilG, Option.bind, List.range, List.range.loop, List.getElem?_cons_zero, List.getElem?_cons_succ, List.getElem?_nil, List.getD_cons_zero, List.getD_cons_succ, List.drop_zero, List.drop_succ_cons, List.drop_nil, List.take_zero, List.take_succ_cons, List.all_cons, List.all_nil, List.isEmpty_nil, List.isEmpty_cons, Bool.and_true, Bool.true_and, Bool.not_true, Bool.not_false, List.contains_nil, reduceCtorEq, List.contains_cons, Bool.or_false, Bool.false_or, eq_self, forall_const, false_implies, Bool.false_eq_true, Nat.le_refl, List.length_map, List.length_set, List.length_replicate, and_self, implies_true]
    refine ⟨fun hc => ?_, fun hc => ?_⟩
    · have hl : l.length ≠ 40 := by intro h; rw [h] at hc; simp at hc
      have hg : goodP l = false := by unfold goodP; simp [hl]
      simp only [hR, hg, r_rprs, awp_scope, noG_n, noG_r, noG_x, awp_skip, awp_reg, awp_draw, awp_seq, awp_cond, awp_block, awp_loop, awp_exit, awp_ret, arun_nil, arun_op, arun_gt, arun_gf, arunD_nil, arunD_op, arunD_gt, arunD_gf, aq_some, isB_t, isB_u, isB_f, isB_g, isB_p, isU_t, isU_b, ifB_t, ifB_f, thenQ_n, thenQ_x, thenQ_r, inQ_n, inQ_r, inQ_x, retQ_n, retQ_r, exD, AOp.isH, keepN, preB, avalP, pureR, astep, stV, stN, stE, stC, aval, anew, aElems, frzS, frzH, aeff, slots, aret, ares, aress, AV.isTup, eqFs, aEqS, ofC_i, ofC_b, ofC_s, ofC_U, getD_mapU, getD_Bs, Bs_len, Int.toNat_natCast, opd, pt, tk, subp, rdP, Rt.size, Rt.isAgg, Rt.zv, aBin, aInt, aStr, arI, aUn, aToInt, aToStr, aIdxS, zv, aIdxA, aIa, aIaA, aFa, aLd, aFld, pparts, aLo, aHi, cutL, aSlS, aSl, aExt, aNck, aNilc, AV.isStr, aLen, AV.one, AV.multi, pureB, szOk, psz, drp, spl, aEqB, aEqA, aMm, aMkfn, aMkif, aBuild, toV, aBuildA, wrP, unparts, view, nilS, St.ev, lk, St.put, St.pin, St.pinV, acall0, acall1, acall2, acall3, bor, bor0, bor1, phiL_nil, phiL_at, tau, lentO, okIds, flatC, flatB, flatOs, flatO, flatPs, place, setAll_nil, setAll_cons, nodupB, renObj, closeIds, addNew, idsOf, idsObj, posOf, lenOk_0, lenOk_1, lenOk_2, lenOk_3, lenOk_4, lenOk_8, ↓reduceIte, Option.isSome_none, Option.isSome_some, Bool.or_true, Bool.true_or,  Nat.reduceEqDiff, Nat.reduceBEq, Nat.reduceSub, Nat.reduceLT, beq_self_eq_true, List.map, List.set, List.map_cons, List.map_nil, List.flatMap_cons, List.flatMap_nil, List.flatten_cons, List.flatten_nil, true_and, and_true, List.length_cons, List.length_nil, Nat.reduceAdd, Nat.reduceLeDiff, List.nil_append, List.cons_append, List.append_nil, Option.map, mapO, ren, kp, kpI, ent, nilG, Option.bind, List.range, List.range.loop, List.getElem?_cons_zero, List.getElem?_cons_succ, List.getElem?_nil, List.getD_cons_zero, List.getD_cons_succ, List.drop_zero, List.drop_succ_cons, List.drop_nil, List.take_zero, List.take_succ_cons, List.all_cons, List.all_nil, List.isEmpty_nil, List.isEmpty_cons, Bool.and_true, Bool.true_and, Bool.not_true, Bool.not_false, List.contains_nil, reduceCtorEq, List.contains_cons, Bool.or_false, Bool.false_or, eq_self, forall_const, false_implies, Bool.false_eq_true, Nat.le_refl, List.length_map, List.length_set, List.length_replicate, and_self, implies_true]
      simp only [Bool.false_eq_true, renObj, finP, finI, closeIds, addNew, idsOf, List.flatMap_nil, List.flatMap_cons, List.append_nil, List.nil_append, List.take_zero, nodupB, posOf, idsObj, List.getD_cons_zero, List.getD_cons_succ, List.range, List.range.loop, ren, lentO, mapO, Option.map, ↓reduceIte, Nat.reduceEqDiff, true_and, and_true, List.getElem?_cons_zero, List.getElem?_cons_succ, Nat.reduceAdd, List.contains_nil, Bool.not_false, Bool.and_true, List.map_nil, List.map_cons, List.take_succ_cons]
    · have hl : l.length = 40 := by
        have : ¬ ¬ ((l.length : Int) = 40) := by simpa using hc
        omega
      clear hc
      refine loop_at [] [0, 2, 3, 4, 5] [0, 1] (fun i : Nat => stQ l i) (fun i => i ≤ 20 ∧ ∀ j, j < i → okP l j) (fun i => 20 - i) 0
        rfl ⟨by omega, fun j hj => by omega⟩ ⟨rfl, rfl⟩ (fun i hi => ?_)
      obtain ⟨hi20, hal⟩ := hi
      by_cases hlt : i < 20
      · refine rprs_round l i _ R hl hlt (fun hno => ?_) fun hok s' hs' => ⟨i + 1, ⟨by omega, fun j hj => ?_⟩, by omega, hs'⟩
        · have hg : goodP l = false := by
            cases h : goodP l with
            | false => rfl
            | true =>
              unfold goodP at h
              simp only [Bool.and_eq_true, List.all_eq_true, decide_eq_true_eq] at h
              exact absurd (h.2 i (List.mem_range.2 hlt)) hno
          rw [hR, hg]; rfl
        · rcases Nat.lt_or_ge j i with h | h
          · exact hal j h
          · rw [show j = i by omega]; exact hok
      · have hi : i = 20 := by omega
        subst hi
        have hg : goodP l = true := by
          unfold goodP
          simp only [Bool.and_eq_true, List.all_eq_true, decide_eq_true_eq]
          exact ⟨hl, fun j hj => hal j (List.mem_range.1 hj)⟩
        have hf : decide (((20 : Nat) : Int) < 20) = false := rfl
        simp only [b_rprs_1, t_rprs_2, stQ, hf, r_rprs, hR, hg, awp_scope, noG_n, noG_r, noG_x, awp_skip, awp_reg, awp_draw, awp_seq, awp_cond, awp_block, awp_loop, awp_exit, awp_ret, arun_nil, arun_op, arun_gt, arun_gf, arunD_nil, arunD_op, arunD_gt, arunD_gf, aq_some, isB_t, isB_u, isB_f, isB_g, isB_p, isU_t, isU_b, ifB_t, ifB_f, thenQ_n, thenQ_x, thenQ_r, inQ_n, inQ_r, inQ_x, retQ_n, retQ_r, exD, AOp.isH, keepN, preB, avalP, pureR, astep, stV, stN, stE, stC, aval, anew, aElems, frzS, frzH, aeff, slots, aret, ares, aress, AV.isTup, eqFs, aEqS, ofC_i, ofC_b, ofC_s, ofC_U, getD_mapU, getD_Bs, Bs_len, Int.toNat_natCast, opd, pt, tk, subp, rdP, Rt.size, Rt.isAgg, Rt.zv, aBin, aInt, aStr, arI, aUn, aToInt, aToStr, aIdxS, zv, aIdxA, aIa, aIaA, aFa, aLd, aFld, pparts, aLo, aHi, cutL, aSlS, aSl, aExt, aNck, aNilc, AV.isStr, aLen, AV.one, AV.multi, pureB, szOk, psz, drp, spl, aEqB, aEqA, aMm, aMkfn, aMkif, aBuild, toV, aBuildA, wrP, unparts, view, nilS, St.ev, lk, St.put, St.pin, St.pinV, acall0, acall1, acall2, acall3, bor, bor0, bor1, phiL_nil, phiL_at, tau, lentO, okIds, flatC, flatB, flatOs, flatO, flatPs, place, setAll_nil, setAll_cons, nodupB, renObj, closeIds, addNew, idsOf, idsObj, posOf, lenOk_0, lenOk_1, lenOk_2, lenOk_3, lenOk_4, lenOk_8, ↓reduceIte, Option.isSome_none, Option.isSome_some, Bool.or_true, Bool.true_or,  Nat.reduceEqDiff, Nat.reduceBEq, Nat.reduceSub, Nat.reduceLT, beq_self_eq_true, List.map, List.set, List.map_cons, List.map_nil, List.flatMap_cons, List.flatMap_nil, List.flatten_cons, List.flatten_nil, true_and, and_true, List.length_cons, List.length_nil, Nat.reduceAdd, Nat.reduceLeDiff, List.nil_append, List.cons_append, List.append_nil, Option.map, mapO, ren, kp, kpI, ent, nilG, Option.bind, List.range, List.range.loop, List.getElem?_cons_zero, List.getElem?_cons_succ, List.getElem?_nil, List.getD_cons_zero, List.getD_cons_succ, List.drop_zero, List.drop_succ_cons, List.drop_nil, List.take_zero, List.take_succ_cons, List.all_cons, List.all_nil, List.isEmpty_nil, List.isEmpty_cons, Bool.and_true, Bool.true_and, Bool.not_true, Bool.not_false, List.contains_nil, reduceCtorEq, List.contains_cons, Bool.or_false, Bool.false_or, eq_self, forall_const, false_implies, Bool.false_eq_true, Nat.le_refl, List.length_map, List.length_set, List.length_replicate, and_self, implies_true]
        refine ⟨by simp [idV], ?_⟩
        simp only [Bool.false_eq_true, renObj, finP, finI, closeIds, addNew, idsOf, List.flatMap_nil, List.flatMap_cons, List.append_nil, List.nil_append, List.take_zero, nodupB, posOf, idsObj, List.getD_cons_zero, List.getD_cons_succ, List.range, List.range.loop, ren, lentO, mapO, Option.map, ↓reduceIte, Nat.reduceEqDiff, true_and, and_true, List.getElem?_cons_zero, List.getElem?_cons_succ, Nat.reduceAdd, List.contains_nil, Bool.not_false, Bool.and_true, List.map_nil, List.map_cons, List.take_succ_cons]
  · cases hs
end Go.Proofs.YtlkaaoekbmegkaaGreatDoor
/- Sums' texts: the document's and the program's say the same, on plain lists. -/
namespace Go.Proofs.YtlkaaoekbmegkaaGreatDoor
set_option linter.all false
open Go.RowKit

theorem goodQ_iff (l : List UInt8) : goodQ l = true ↔ l.length = 40 ∧ ∀ c ∈ l, 0 ≤ dv c := by unfold goodQ; simp
theorem goodP_eq (l : List UInt8) : goodP l = goodQ l := by
  rw [Bool.eq_iff_iff, goodQ_iff]
  unfold goodP
  simp only [Bool.and_eq_true, List.all_eq_true, decide_eq_true_eq, List.mem_range]
  constructor
  · rintro ⟨h1, h2⟩
    refine ⟨h1, fun c hc => ?_⟩
    obtain ⟨n, hn, rfl⟩ := List.getElem_of_mem hc
    have h3 := h2 (n / 2) (by omega)
    have e : ∀ k, k < l.length → l.getD k 0 = l.getD k 0 := fun _ _ => rfl
    have hg : l.getD n 0 = l[n] := by rw [List.getD_eq_getElem?_getD, List.getElem?_eq_getElem hn]; rfl
    rcases (show n = 2 * (n / 2) ∨ n = 2 * (n / 2) + 1 by omega) with e | e
    · have := h3.1; rw [← e, hg] at this; exact this
    · have := h3.2; rw [← e, hg] at this; exact this
  · rintro ⟨h1, h2⟩
    have hat : ∀ n, n < 40 → 0 ≤ dv (l.getD n 0) := fun n hn => h2 _ (by rw [List.getD_eq_getElem?_getD, List.getElem?_eq_getElem (by omega)]; exact List.getElem_mem _)
    exact ⟨h1, fun x hx => ⟨hat _ (by omega), hat _ (by omega)⟩⟩
theorem rOut_eq (l : List UInt8) : rOut l = pOut l := by
  unfold rOut pOut
  rw [goodP_eq]
  split
  · unfold outL
    refine List.map_congr_left fun j hj => ?_
    have := List.mem_range.1 hj
    unfold outN valP
    rw [if_pos (by omega)]
  · rfl
theorem pOut_len (l : List UInt8) : (pOut l).length = 20 := by
  unfold pOut
  split
  · exact outL_length _ _
  · simp
theorem hex_good (l : List UInt8) (h : l.length = 20) : goodQ (hexL l) = true := (goodQ_iff _).2 ⟨by rw [hexL_length, h], hexL_ok l⟩
theorem pErr_hex (l : List UInt8) (h : l.length = 20) : pErr (hexL l) = 0 := by unfold pErr; rw [if_pos (hex_good l h)]
theorem pOut_hex (l : List UInt8) (h : l.length = 20) : pOut (hexL l) = l := by unfold pOut; rw [if_pos (hex_good l h), parse_hex l h]
theorem hex_pOut (l : List UInt8) (h : goodQ l = true) : hexL (pOut l) = l := by
  unfold pOut
  rw [if_pos h]
  exact hex_parse l ((goodQ_iff l).1 h).1 ((goodQ_iff l).1 h).2
end Go.Proofs.YtlkaaoekbmegkaaGreatDoor
