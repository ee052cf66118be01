/- The document's reading of a sum's text, on abstract values. -/
import Derived.Test.YtehbpibpbfomhaaDoorT2h
import Derived.Test.YtehbpibpbfomhaaDoorParseLaw2
namespace Go.Proofs.YtehbpibpbfomhaaDoor
set_option linter.all false
open Go.RowKit
/-! tramway/tramwayref02.Parse -/
def b_rprs_0 : ACode := (.seq (.seq (.reg none [⟨(some 16), (.mv (.t 7)), none⟩, ⟨(some 17), (.bin .lss (.t 16) (.c (.int .i64 256))), none⟩]) (.cond (.t 17) .skip (.exit 2))) (.seq (.block 3 (.seq (.reg (some [(0, false), (1, false), (2, false), (3, false), (4, false), (5, false), (6, false), (7, true), (8, true), (9, false), (10, false), (11, false), (12, false), (13, false), (14, false), (15, false), (16, false), (17, true), (18, true)]) [⟨(some 20), (.mv (.t 0)), none⟩, ⟨(some 21), (.mv (.t 5)), none⟩, ⟨(some 22), (.bin .mul (.c (.int .i64 2)) (.t 21)), none⟩, ⟨(some 23), (.idxS (.t 20) (.t 22)), none⟩, ⟨(some 24), (.mv (.t 7)), none⟩, ⟨(some 25), (.bin .quo (.t 24) (.c (.int .i64 16))), none⟩, ⟨(some 26), (.call 34 [(.t 25)]), none⟩, ⟨(some 27), (.bin .eql (.t 23) (.t 26)), none⟩, ⟨(some 28), (.mv (.t 27)), none⟩, ⟨(some 29), (.mv (.t 0)), (some (28, true))⟩, ⟨(some 30), (.mv (.t 5)), (some (28, true))⟩, ⟨(some 31), (.bin .mul (.c (.int .i64 2)) (.t 30)), (some (28, true))⟩, ⟨(some 32), (.bin .add (.t 31) (.c (.int .i64 1))), (some (28, true))⟩, ⟨(some 33), (.idxS (.t 29) (.t 32)), (some (28, true))⟩, ⟨(some 34), (.mv (.t 7)), (some (28, true))⟩, ⟨(some 35), (.bin .rem (.t 34) (.c (.int .i64 16))), (some (28, true))⟩, ⟨(some 36), (.call 34 [(.t 35)]), (some (28, true))⟩, ⟨(some 37), (.bin .eql (.t 33) (.t 36)), (some (28, true))⟩, ⟨(some 38), (.pick (.t 28) (.t 37) (.c (.bool false))), none⟩]) (.cond (.t 38) (.seq (.reg none [⟨(some 39), (.mv (.t 5)), none⟩, ⟨(some 40), (.mv (.t 7)), none⟩, ⟨(some 41), (.toInt .u8 (.t 40)), none⟩, ⟨(some 42), (.iaA 20 (.t 4) (.t 39)), none⟩, ⟨none, (.st (.one (.int .u8 0)) (.t 42) (.t 41)), none⟩]) (.reg none [⟨(some 6), (.mv (.c (.bool true))), none⟩])) .skip))) (.reg none [⟨(some 18), (.mv (.t 7)), none⟩, ⟨(some 19), (.bin .add (.t 18) (.c (.int .i64 1))), none⟩, ⟨(some 7), (.mv (.t 19)), none⟩])))
def t_rprs_0 : ACode := (.seq (.reg none [⟨(some 43), (.mv (.t 6)), none⟩, ⟨(some 44), (.un .not (.t 43)), none⟩]) (.cond (.t 44) (.seq (.reg none [⟨(some 45), (.buildA (List.replicate 20 (.int .u8 0)) []), none⟩, ⟨none, (.st (.arr 20) (.t 2) (.t 45)), none⟩, ⟨(some 3), (.mv (.c (.bool false))), none⟩]) .ret) .skip))
def t_rprs_1 : ACode := (.reg none [⟨(some 14), (.mv (.t 5)), none⟩, ⟨(some 15), (.bin .add (.t 14) (.c (.int .i64 1))), none⟩, ⟨(some 5), (.mv (.t 15)), none⟩])
def b_rprs_1 : ACode := (.seq (.seq (.reg none [⟨(some 12), (.mv (.t 5)), none⟩, ⟨(some 13), (.bin .lss (.t 12) (.c (.int .i64 20))), none⟩]) (.cond (.t 13) .skip (.exit 0))) (.seq (.block 1 (.seq (.reg none [⟨(some 6), (.mv (.c (.bool false))), none⟩]) (.seq (.seq (.reg none [⟨(some 7), (.mv (.c (.int .i64 0))), none⟩]) (.block 2 (.loop b_rprs_0))) t_rprs_0))) t_rprs_1))
def t_rprs_2 : ACode := (.seq (.reg none [⟨(some 46), (.ld (.arr 20) (.t 4)), none⟩, ⟨none, (.st (.arr 20) (.t 2) (.t 46)), none⟩, ⟨(some 3), (.mv (.c (.bool true))), none⟩]) .ret)
def c_rprs : ACode := (.seq (.reg none [⟨(some 2), (.new 23 [(20, (.blob (List.replicate 20 (.int .u8 0))))]), none⟩, ⟨(some 3), (.mv (.c (.bool false))), none⟩]) (.seq (.reg none [⟨(some 4), (.new 23 [(20, (.blob (List.replicate 20 (.int .u8 0))))]), none⟩]) (.seq (.seq (.reg none [⟨(some 8), (.mv (.t 0)), none⟩, ⟨(some 9), (.len none true (.t 8)), none⟩, ⟨(some 10), (.bin .neq (.t 9) (.c (.int .i64 40))), none⟩]) (.cond (.t 10) (.seq (.reg none [⟨(some 11), (.ld (.arr 20) (.t 4)), none⟩, ⟨none, (.st (.arr 20) (.t 2) (.t 11)), none⟩, ⟨(some 3), (.mv (.c (.bool false))), none⟩]) .ret) .skip)) (.seq (.seq (.reg none [⟨(some 5), (.mv (.c (.int .i64 0))), none⟩]) (.block 0 (.loop b_rprs_1))) t_rprs_2))))
def r_rprs : List ARes := [(.c 2 (.arr 20)), (.t 3)]
theorem s_rprs : slimF Tryd.prog Tryd.f25 = some (c_rprs, r_rprs) := by kernel_rfl

abbrev phiD : Phi := phiL [(34, [], digitS)]
theorem phiD_at : phiD 34 = some ([], digitS) := rfl
/-- The i-th pair of letters has a value. -/
def okP (l : List UInt8) (i : Nat) : Prop := 0 ≤ dv (l.getD (2 * i) 0) ∧ 0 ≤ dv (l.getD (2 * i + 1) 0)
instance (l : List UInt8) (i : Nat) : Decidable (okP l i) := inferInstanceAs (Decidable (_ ∧ _))
def valP (l : List UInt8) (i : Nat) : Nat := 16 * (dv (l.getD (2 * i) 0)).toNat + (dv (l.getD (2 * i + 1) 0)).toNat
/-- The bytes read from the first i pairs. -/
def idV (l : List UInt8) (i : Nat) : List Value := (List.range i).map (fun j => Value.int .u8 (valP l j : Int)) ++ List.replicate (20 - i) (.int .u8 0)
/-- The cells while the i-th pair is looked for below n. -/
def idW (l : List UInt8) (i n : Nat) : List Value := (List.range i).map (fun j => Value.int .u8 (valP l j : Int)) ++ [.int .u8 (if okP l i ∧ valP l i < n then (valP l i : Int) else 0)] ++ List.replicate (19 - i) (.int .u8 0)
def stP (l : List UInt8) (i n : Nat) : St := ⟨[(0, .str l), (2, .ref 0 0 0), (3, .bool false), (4, .ref 1 0 0), (5, .int .i64 (i : Int)), (6, .bool (decide (okP l i ∧ valP l i < n))), (7, .int .i64 (n : Int))],
  [.cells 23 [(20, .blob (List.replicate 20 (.int .u8 0)))], .cells 23 [(20, .blob (idW l i n))]]⟩
theorem digN_digs : ∀ k : Fin 16, digN (k.1 : Int) = ((digs.getD k.1 0).toNat : Int) := by decide
theorem dvN (c : UInt8) (k : Nat) (h : k < 16) : ((c.toNat : Int) = digN (k : Int)) ↔ dv c = (k : Int) := by
  rw [digN_digs ⟨k, h⟩]
  constructor
  · intro e
    have : c = digs.getD k 0 := UInt8.toNat_inj.1 (Int.ofNat.inj e)
    rw [this]; exact dv_dig k h
  · intro e
    have := dig_dv c (by omega)
    rw [e] at this
    simp only [Int.toNat_natCast] at this
    simp only [this]
theorem idW_len (l : List UInt8) (i n : Nat) (h : i < 20) : (idW l i n).length = 20 := by simp [idW]; omega
theorem idW_set (l : List UInt8) (i n : Nat) (v : Value) : (idW l i n).set i v = (List.range i).map (fun j => Value.int .u8 (valP l j : Int)) ++ [v] ++ List.replicate (19 - i) (.int .u8 0) := by
  unfold idW
  rw [List.append_assoc, List.set_append_right _ _ (by simp)]
  simp
theorem rparse_in (l : List UInt8) (i n : Nat) (K : St → Prop) (Q : Exit → St → Prop) (hl : l.length = 40) (hi : i < 20) (hn : n < 256)
    (hK : ∀ s', kp [0, 2, 3, 4, 5, 6, 7] 2 s' = some (stP l i (n + 1)) → K s') : awp phiD 0 b_rprs_0 (thenQ K Q) (stP l i n) := by
  simp only [b_rprs_0, stP, phiD_at, digitS, aIdxS, awp_scope, noG_n, noG_r, noG_x, awp_skip, awp_reg, awp_draw, awp_seq, awp_cond, awp_block, awp_loop, awp_exit, awp_ret, arun_nil, arun_op, arun_gt, arun_gf, arunD_nil, arunD_op, arunD_gt, arunD_gf, aq_some, isB_t, isB_u, isB_f, isB_g, isB_p, isU_t, isU_b, ifB_t, ifB_f, thenQ_n, thenQ_x, thenQ_r, inQ_n, inQ_r, inQ_x, retQ_n, retQ_r, exD, AOp.isH, preB, astep, stV, stN, stE, stC, aval, anew, aElems, frzS, frzH, aeff, slots, aret, ares, aress, AV.isTup, ofC_i, ofC_b, ofC_s, ofC_U, getD_mapU, getD_Bs, Bs_len, Int.toNat_natCast, opd, pt, tk, subp, rdP, Rt.size, Rt.isAgg, Rt.zv, aBin, aInt, aStr, arI, aUn, aToInt, aToStr, aIdxS, zv, aIdxA, aIa, aIaA, aFa, aLd, aFld, pparts, aLo, aHi, cutL, aSlS, aSl, aExt, aNck, aNilc, AV.isStr, aLen, AV.one, AV.multi, pureB, szOk, psz, drp, spl, aEqB, aEqA, aMm, aMkfn, aMkif, aBuild, toV, aBuildA, wrP, unparts, view, nilS, St.ev, lk, St.put, St.pin, St.pinV, acall0, acall1, acall2, acall3, bor, bor0, bor1, phiL_nil, phiL_at, tau, lentO, okIds, flatC, flatB, flatOs, flatO, place, setAll_nil, setAll_cons, nodupB, renObj, closeIds, addNew, idsOf, idsObj, posOf, lenOk_0, lenOk_1, lenOk_2, lenOk_3, lenOk_4, lenOk_8, ↓reduceIte, Option.isSome_none, Option.isSome_some, Bool.or_true, Bool.true_or,  Nat.reduceEqDiff, Nat.reduceBEq, Nat.reduceSub, Nat.reduceLT, beq_self_eq_true, List.map, List.set, List.map_cons, List.map_nil, List.flatMap_cons, List.flatMap_nil, List.flatten_cons, List.flatten_nil, true_and, and_true, List.length_cons, List.length_nil, Nat.reduceAdd, Nat.reduceLeDiff, List.nil_append, List.cons_append, List.append_nil, Option.map, mapO, ren, kp, kpI, ent, nilG, Option.bind, List.range, List.range.loop, List.getElem?_cons_zero, List.getElem?_cons_succ, List.getElem?_nil, List.getD_cons_zero, List.getD_cons_succ, List.drop_zero, List.drop_succ_cons, List.drop_nil, List.take_zero, List.take_succ_cons, List.all_cons, List.all_nil, List.isEmpty_nil, List.isEmpty_cons, Bool.and_true, Bool.true_and, Bool.not_true, Bool.not_false, List.contains_nil, reduceCtorEq, List.contains_cons, Bool.or_false, Bool.false_or, eq_self, forall_const, false_implies, Bool.false_eq_true, Nat.le_refl, List.length_map, List.length_set, List.length_replicate, and_self, implies_true]
  have e0 : (2 * (i : Int)).toNat = 2 * i := by omega
  have e1 : (2 * (i : Int) + 1).toNat = 2 * i + 1 := by omega
  rw [e0, e1, Int.tdiv_eq_ediv_of_nonneg (by omega), Int.tmod_eq_emod_of_nonneg (by omega), idW_len l i n hi, hl]
  have h1 := dvN (l.getD (2 * i) 0) (n / 16) (by omega)
  have h2 := dvN (l.getD (2 * i + 1) 0) (n % 16) (by omega)
  rw [show (n : Int) / 16 = ((n / 16 : Nat) : Int) by omega, show (n : Int) % 16 = ((n % 16 : Nat) : Int) by omega]
  have a1 : at8 l (2 * i) = ((l.getD (2 * i) 0).toNat : Int) := rfl
  have a2 : at8 l (2 * i + 1) = ((l.getD (2 * i + 1) 0).toNat : Int) := rfl
  rw [a1, a2]
  refine ⟨fun _ => ?_, fun hf => absurd (of_decide_eq_false hf) (by omega)⟩
  refine ⟨by simp only [inI]; omega, by omega, ⟨by omega, by simp only [inI]; omega⟩, by omega, fun hd => ?_, fun hd => ?_⟩
  · have hd := h1.1 (of_decide_eq_true hd)
    refine ⟨by simp only [inI]; omega, by simp only [inI]; omega, by omega, by omega, by omega, fun hg => ?_, fun hg => ?_⟩
    · have hg := h2.1 (of_decide_eq_true hg)
      have hok : okP l i := ⟨by rw [hd]; omega, by rw [hg]; omega⟩
      have hv : valP l i = n := by unfold valP; rw [hd, hg]; simp only [Int.toNat_natCast]; omega
      refine ⟨by omega, hi, by simp only [inI]; omega, hK _ ?_⟩
      rw [wrap8 (by omega) (by omega), idW_set]
      simp only [stP, awp_scope, noG_n, noG_r, noG_x, awp_skip, awp_reg, awp_draw, awp_seq, awp_cond, awp_block, awp_loop, awp_exit, awp_ret, arun_nil, arun_op, arun_gt, arun_gf, arunD_nil, arunD_op, arunD_gt, arunD_gf, aq_some, isB_t, isB_u, isB_f, isB_g, isB_p, isU_t, isU_b, ifB_t, ifB_f, thenQ_n, thenQ_x, thenQ_r, inQ_n, inQ_r, inQ_x, retQ_n, retQ_r, exD, AOp.isH, preB, astep, stV, stN, stE, stC, aval, anew, aElems, frzS, frzH, aeff, slots, aret, ares, aress, AV.isTup, ofC_i, ofC_b, ofC_s, ofC_U, getD_mapU, getD_Bs, Bs_len, Int.toNat_natCast, opd, pt, tk, subp, rdP, Rt.size, Rt.isAgg, Rt.zv, aBin, aInt, aStr, arI, aUn, aToInt, aToStr, aIdxS, zv, aIdxA, aIa, aIaA, aFa, aLd, aFld, pparts, aLo, aHi, cutL, aSlS, aSl, aExt, aNck, aNilc, AV.isStr, aLen, AV.one, AV.multi, pureB, szOk, psz, drp, spl, aEqB, aEqA, aMm, aMkfn, aMkif, aBuild, toV, aBuildA, wrP, unparts, view, nilS, St.ev, lk, St.put, St.pin, St.pinV, acall0, acall1, acall2, acall3, bor, bor0, bor1, phiL_nil, phiL_at, tau, lentO, okIds, flatC, flatB, flatOs, flatO, place, setAll_nil, setAll_cons, nodupB, renObj, closeIds, addNew, idsOf, idsObj, posOf, lenOk_0, lenOk_1, lenOk_2, lenOk_3, lenOk_4, lenOk_8, ↓reduceIte, Option.isSome_none, Option.isSome_some, Bool.or_true, Bool.true_or,  Nat.reduceEqDiff, Nat.reduceBEq, Nat.reduceSub, Nat.reduceLT, beq_self_eq_true, List.map, List.set, List.map_cons, List.map_nil, List.flatMap_cons, List.flatMap_nil, List.flatten_cons, List.flatten_nil, true_and, and_true, List.length_cons, List.length_nil, Nat.reduceAdd, Nat.reduceLeDiff, List.nil_append, List.cons_append, List.append_nil, Option.map, mapO, ren, kp, kpI, ent, nilG, Option.bind, List.range, List.range.loop, List.getElem?_cons_zero, List.getElem?_cons_succ, List.getElem?_nil, List.getD_cons_zero, List.getD_cons_succ, List.drop_zero, List.drop_succ_cons, List.drop_nil, List.take_zero, List.take_succ_cons, List.all_cons, List.all_nil, List.isEmpty_nil, List.isEmpty_cons, Bool.and_true, Bool.true_and, Bool.not_true, Bool.not_false, List.contains_nil, reduceCtorEq, List.contains_cons, Bool.or_false, Bool.false_or, eq_self, forall_const, false_implies, Bool.false_eq_true, Nat.le_refl, List.length_map, List.length_set, List.length_replicate, and_self, implies_true]
      have e : decide (okP l i ∧ valP l i < n + 1) = true := decide_eq_true ⟨hok, by omega⟩
      rw [e]
      unfold idW
      rw [if_pos (show okP l i ∧ valP l i < n + 1 from ⟨hok, by omega⟩), hv]
      rfl
    · have hg : ¬ dv (l.getD (2 * i + 1) 0) = ((n % 16 : Nat) : Int) := fun h => of_decide_eq_false hg (h2.2 h)
      have key : (okP l i ∧ valP l i < n + 1) ↔ (okP l i ∧ valP l i < n) := by
        constructor
        · rintro ⟨⟨k1, k2⟩, k3⟩
          refine ⟨⟨k1, k2⟩, ?_⟩
          have b1 := dv_lt (l.getD (2 * i) 0)
          have b2 := dv_lt (l.getD (2 * i + 1) 0)
          unfold valP at k3 ⊢
          clear h1 h2 hK
          generalize dv (l.getD (2 * i) 0) = x at *
          generalize dv (l.getD (2 * i + 1) 0) = y at *
          omega
        · rintro ⟨k1, k3⟩; exact ⟨k1, by omega⟩
      refine ⟨by simp only [inI]; omega, hK _ ?_⟩
      simp only [stP, idW, key, awp_scope, noG_n, noG_r, noG_x, awp_skip, awp_reg, awp_draw, awp_seq, awp_cond, awp_block, awp_loop, awp_exit, awp_ret, arun_nil, arun_op, arun_gt, arun_gf, arunD_nil, arunD_op, arunD_gt, arunD_gf, aq_some, isB_t, isB_u, isB_f, isB_g, isB_p, isU_t, isU_b, ifB_t, ifB_f, thenQ_n, thenQ_x, thenQ_r, inQ_n, inQ_r, inQ_x, retQ_n, retQ_r, exD, AOp.isH, preB, astep, stV, stN, stE, stC, aval, anew, aElems, frzS, frzH, aeff, slots, aret, ares, aress, AV.isTup, ofC_i, ofC_b, ofC_s, ofC_U, getD_mapU, getD_Bs, Bs_len, Int.toNat_natCast, opd, pt, tk, subp, rdP, Rt.size, Rt.isAgg, Rt.zv, aBin, aInt, aStr, arI, aUn, aToInt, aToStr, aIdxS, zv, aIdxA, aIa, aIaA, aFa, aLd, aFld, pparts, aLo, aHi, cutL, aSlS, aSl, aExt, aNck, aNilc, AV.isStr, aLen, AV.one, AV.multi, pureB, szOk, psz, drp, spl, aEqB, aEqA, aMm, aMkfn, aMkif, aBuild, toV, aBuildA, wrP, unparts, view, nilS, St.ev, lk, St.put, St.pin, St.pinV, acall0, acall1, acall2, acall3, bor, bor0, bor1, phiL_nil, phiL_at, tau, lentO, okIds, flatC, flatB, flatOs, flatO, place, setAll_nil, setAll_cons, nodupB, renObj, closeIds, addNew, idsOf, idsObj, posOf, lenOk_0, lenOk_1, lenOk_2, lenOk_3, lenOk_4, lenOk_8, ↓reduceIte, Option.isSome_none, Option.isSome_some, Bool.or_true, Bool.true_or,  Nat.reduceEqDiff, Nat.reduceBEq, Nat.reduceSub, Nat.reduceLT, beq_self_eq_true, List.map, List.set, List.map_cons, List.map_nil, List.flatMap_cons, List.flatMap_nil, List.flatten_cons, List.flatten_nil, true_and, and_true, List.length_cons, List.length_nil, Nat.reduceAdd, Nat.reduceLeDiff, List.nil_append, List.cons_append, List.append_nil, Option.map, mapO, ren, kp, kpI, ent, nilG, Option.bind, List.range, List.range.loop, List.getElem?_cons_zero, List.getElem?_cons_succ, List.getElem?_nil, List.getD_cons_zero, List.getD_cons_succ, List.drop_zero, List.drop_succ_cons, List.drop_nil, List.take_zero, List.take_succ_cons, List.all_cons, List.all_nil, List.isEmpty_nil, List.isEmpty_cons, Bool.and_true, Bool.true_and, Bool.not_true, Bool.not_false, List.contains_nil, reduceCtorEq, List.contains_cons, Bool.or_false, Bool.false_or, eq_self, forall_const, false_implies, Bool.false_eq_true, Nat.le_refl, List.length_map, List.length_set, List.length_replicate, and_self, implies_true]
      rfl
  · have hd : ¬ dv (l.getD (2 * i) 0) = ((n / 16 : Nat) : Int) := fun h => of_decide_eq_false hd (h1.2 h)
    have key : (okP l i ∧ valP l i < n + 1) ↔ (okP l i ∧ valP l i < n) := by
      constructor
      · rintro ⟨⟨k1, k2⟩, k3⟩
        refine ⟨⟨k1, k2⟩, ?_⟩
        have b1 := dv_lt (l.getD (2 * i) 0)
        have b2 := dv_lt (l.getD (2 * i + 1) 0)
        unfold valP at k3 ⊢
        clear h1 h2 hK
        generalize dv (l.getD (2 * i) 0) = x at *
        generalize dv (l.getD (2 * i + 1) 0) = y at *
        omega
      · rintro ⟨k1, k3⟩; exact ⟨k1, by omega⟩
    refine ⟨by simp only [inI]; omega, hK _ ?_⟩
    simp only [stP, idW, key, awp_scope, noG_n, noG_r, noG_x, awp_skip, awp_reg, awp_draw, awp_seq, awp_cond, awp_block, awp_loop, awp_exit, awp_ret, arun_nil, arun_op, arun_gt, arun_gf, arunD_nil, arunD_op, arunD_gt, arunD_gf, aq_some, isB_t, isB_u, isB_f, isB_g, isB_p, isU_t, isU_b, ifB_t, ifB_f, thenQ_n, thenQ_x, thenQ_r, inQ_n, inQ_r, inQ_x, retQ_n, retQ_r, exD, AOp.isH, preB, astep, stV, stN, stE, stC, aval, anew, aElems, frzS, frzH, aeff, slots, aret, ares, aress, AV.isTup, ofC_i, ofC_b, ofC_s, ofC_U, getD_mapU, getD_Bs, Bs_len, Int.toNat_natCast, opd, pt, tk, subp, rdP, Rt.size, Rt.isAgg, Rt.zv, aBin, aInt, aStr, arI, aUn, aToInt, aToStr, aIdxS, zv, aIdxA, aIa, aIaA, aFa, aLd, aFld, pparts, aLo, aHi, cutL, aSlS, aSl, aExt, aNck, aNilc, AV.isStr, aLen, AV.one, AV.multi, pureB, szOk, psz, drp, spl, aEqB, aEqA, aMm, aMkfn, aMkif, aBuild, toV, aBuildA, wrP, unparts, view, nilS, St.ev, lk, St.put, St.pin, St.pinV, acall0, acall1, acall2, acall3, bor, bor0, bor1, phiL_nil, phiL_at, tau, lentO, okIds, flatC, flatB, flatOs, flatO, place, setAll_nil, setAll_cons, nodupB, renObj, closeIds, addNew, idsOf, idsObj, posOf, lenOk_0, lenOk_1, lenOk_2, lenOk_3, lenOk_4, lenOk_8, ↓reduceIte, Option.isSome_none, Option.isSome_some, Bool.or_true, Bool.true_or,  Nat.reduceEqDiff, Nat.reduceBEq, Nat.reduceSub, Nat.reduceLT, beq_self_eq_true, List.map, List.set, List.map_cons, List.map_nil, List.flatMap_cons, List.flatMap_nil, List.flatten_cons, List.flatten_nil, true_and, and_true, List.length_cons, List.length_nil, Nat.reduceAdd, Nat.reduceLeDiff, List.nil_append, List.cons_append, List.append_nil, Option.map, mapO, ren, kp, kpI, ent, nilG, Option.bind, List.range, List.range.loop, List.getElem?_cons_zero, List.getElem?_cons_succ, List.getElem?_nil, List.getD_cons_zero, List.getD_cons_succ, List.drop_zero, List.drop_succ_cons, List.drop_nil, List.take_zero, List.take_succ_cons, List.all_cons, List.all_nil, List.isEmpty_nil, List.isEmpty_cons, Bool.and_true, Bool.true_and, Bool.not_true, Bool.not_false, List.contains_nil, reduceCtorEq, List.contains_cons, Bool.or_false, Bool.false_or, eq_self, forall_const, false_implies, Bool.false_eq_true, Nat.le_refl, List.length_map, List.length_set, List.length_replicate, and_self, implies_true]
    rfl
end Go.Proofs.YtehbpibpbfomhaaDoor
