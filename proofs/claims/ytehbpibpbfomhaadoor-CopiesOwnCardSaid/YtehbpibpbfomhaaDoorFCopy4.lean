/- Copies: contracts whose results nobody writes any more; the laws' small functions. -/
import Derived.Test.YtehbpibpbfomhaaDoorFCopy3
import Derived.Test.YtehbpibpbfomhaaDoorRCopy2
namespace Go.Proofs.YtehbpibpbfomhaaDoor
set_option linter.all false
open Go.RowKit
open Go.Lib (hasPrefix)
/-- What Print hands back, as a slice. -/
def outF : Option (List UInt8) → AV
  | none => .tup [.con (.slice none 0 0), .int .i64 4]
  | some o => .tup [.sl 1 (Bs o), .int .i64 0]
def printFR (bs : List AV) (p : List UInt8) (id : List Value) : Option Ret := some ⟨outF (prnC (unB bs) p (unV id)), [], bs = Bs (unB bs) ∧ bs.length ≤ 1000000 ∧ p.length ≤ 1000000 ∧ id = (unV id).map U ∧ id.length = 20⟩
def printF : Spec := fun xs hp => match xs, hp with
  | [.sl 1 bs, .agg [(1, .str p), (20, .blob id)]], [] => printFR bs p id
  | _, _ => none
def printF1 : Spec := fun xs hp => match xs, hp with
  | [.sl 1 bs, .agg [(1, .str p), (20, .blob id)]], [] => if (prnC (unB bs) p (unV id)).getD [] = [] then none else printFR bs p id
  | _, _ => none
theorem printF1_ok : FnOk Tryd.prog 9 printF1 := by
  refine FnOk.freeze printS_ok fun xs hp r' hs hp' => ?_
  unfold printF1 at hs
  split at hs
  · rename_i bs p id
    split at hs
    · cases hs
    · rename_i hne
      unfold printFR at hs
      injection hs with hs; subst hs
      cases h : prnC (unB bs) p (unV id) with
      | none => rw [h] at hne; exact absurd rfl hne
      | some o =>
        cases o with
        | nil => rw [h] at hne; exact absurd rfl hne
        | cons b o =>
          have hr : printS [.sl 1 bs, .agg [(1, .str p), (20, .blob id)]] [] = outS 1 (prnC (unB bs) p (unV id)) (bs = Bs (unB bs) ∧ bs.length ≤ 1000000 ∧ p.length ≤ 1000000 ∧ id = (unV id).map U ∧ id.length = 20) := rfl
          rw [h] at hr
          exact ⟨rfl, _, _, _, _, _, hr, hp', rfl, by decide, rfl, rfl, rfl⟩
  · cases hs
theorem printF_ok : FnOk Tryd.prog 9 printF := by
  refine FnOk.or printF1_ok printS_ok fun xs hp r hs hp' => ?_
  unfold printF at hs
  split at hs
  · rename_i bs p id
    by_cases hne : (prnC (unB bs) p (unV id)).getD [] = []
    · unfold printFR at hs
      injection hs with hs; subst hs
      have hr : printS [.sl 1 bs, .agg [(1, .str p), (20, .blob id)]] [] = outS 1 (prnC (unB bs) p (unV id)) (bs = Bs (unB bs) ∧ bs.length ≤ 1000000 ∧ p.length ≤ 1000000 ∧ id = (unV id).map U ∧ id.length = 20) := rfl
      cases h : prnC (unB bs) p (unV id) with
      | none => rw [h] at hr; exact .inr ⟨_, hr, hp', rfl, rfl⟩
      | some o =>
        rw [h] at hne hr
        have : o = [] := hne
        subst this
        exact .inr ⟨_, hr, hp', rfl, rfl⟩
    · refine .inl ⟨r, ?_, hp', rfl, rfl⟩
      show (if (prnC (unB bs) p (unV id)).getD [] = [] then none else printFR bs p id) = some r
      rw [if_neg hne]; exact hs
  · cases hs
/-- What Parse hands back, as a slice. -/
def outPF : Option (List UInt8 × List UInt8 × List UInt8) → AV
  | none => .tup [.con (.slice none 0 0), fromA [] zid, .int .i64 4]
  | some (t, p, id) => .tup [.sl 1 (Bs t), fromA p id, .int .i64 0]
def parFR (bs : List AV) : Option Ret := some ⟨outPF (parC (unB bs)), [], bs = Bs (unB bs) ∧ bs.length ≤ 50000⟩
def parF : Spec := fun xs hp => match xs, hp with
  | [.sl 1 bs], [] => parFR bs
  | _, _ => none
def isN {α : Type} : Option α → Bool
  | none => true
  | _ => false
/-- There is a row to be told of. -/
def rowP (b : List UInt8) : Bool := if begL b = true then !isN (parC b) else !decide (b = [])
def parF1 : Spec := fun xs hp => match xs, hp with
  | [.sl 1 bs], [] => if rowP (unB bs) = true then parFR bs else none
  | _, _ => none
theorem parC_n {b : List UInt8} (h : begL b = false) : parC b = some (b, [], zid) := by unfold parC; rw [if_neg (by rw [h]; simp)]
theorem parF1_ok : FnOk Tryd.prog 13 parF1 := by
  refine FnOk.freeze cparse_ok fun xs hp r' hs hp' => ?_
  unfold parF1 at hs
  split at hs
  · rename_i bs
    split at hs
    · rename_i hne
      unfold parFR at hs
      injection hs with hs; subst hs
      have hr : cparseS [.sl 1 bs] [] = parS1 (unB bs) (bs = Bs (unB bs) ∧ bs.length ≤ 50000) := rfl
      generalize unB bs = l at *
      unfold parS1 at hr
      unfold rowP at hne
      cases hb : begL l with
      | true =>
        rw [if_pos hb] at hr hne
        cases h : parC l with
        | none => rw [h] at hne; cases hne
        | some x =>
          obtain ⟨t, p, id⟩ := x
          rw [h] at hr
          exact ⟨rfl, _, _, _, _, _, hr, hp', rfl, by decide, rfl, rfl, rfl⟩
      | false =>
        rw [if_neg (by rw [hb]; simp)] at hr hne
        cases l with
        | nil => cases hne
        | cons c l =>
          rw [parC_n hb]
          exact ⟨rfl, _, _, _, _, _, hr, hp', rfl, by decide, rfl, rfl, rfl⟩
    · cases hs
  · cases hs
theorem parF_ok : FnOk Tryd.prog 13 parF := by
  refine FnOk.or parF1_ok cparse_ok fun xs hp r hs hp' => ?_
  unfold parF at hs
  split at hs
  · rename_i bs
    cases hne : rowP (unB bs) with
    | true =>
      refine .inl ⟨r, ?_, hp', rfl, rfl⟩
      show (if rowP (unB bs) = true then parFR bs else none) = some r
      rw [if_pos hne]; exact hs
    | false =>
      unfold parFR at hs
      injection hs with hs; subst hs
      have hr : cparseS [.sl 1 bs] [] = parS1 (unB bs) (bs = Bs (unB bs) ∧ bs.length ≤ 50000) := rfl
      generalize unB bs = l at *
      unfold parS1 at hr
      unfold rowP at hne
      cases hb : begL l with
      | true =>
        rw [if_pos hb] at hr hne
        cases h : parC l with
        | none => rw [h] at hr; exact .inr ⟨_, hr, hp', rfl, rfl⟩
        | some x => rw [h] at hne; cases hne
      | false =>
        rw [if_neg (by rw [hb]; simp)] at hr hne
        cases l with
        | nil => rw [parC_n hb]; exact .inr ⟨_, hr, hp', rfl, rfl⟩
        | cons c l => simp at hne
  · cases hs
theorem rcP_some {b t p id : List UInt8} (h : parC b = some (t, p, id)) : rcP b = .tup [.str t, fromA p id, .bool true] := by
  unfold parC at h
  unfold rcP
  split at h
  · rename_i hb
    rw [if_pos hb]
    split at h
    · rename_i hb2
      rw [if_pos hb2]
      split at h
      · rename_i hb4; injection h with h; injection h with h1 h; injection h with h2 h3; subst h1 h2 h3; rw [hb4]
      · cases h
    · rename_i hb2; rw [if_neg hb2, h]
  · rename_i hb; rw [if_neg hb]; injection h with h; injection h with h1 h; injection h with h2 h3; subst h1 h2 h3; rfl
theorem rcP_none {b : List UInt8} (h : parC b = none) : ∃ s, rcP b = .tup [.str s, fromA [] zid, .bool false] := by
  unfold parC at h
  unfold rcP
  split at h
  · rename_i hb
    rw [if_pos hb]
    split at h
    · rename_i hb2
      rw [if_pos hb2]
      split at h
      · cases h
      · rename_i hb4; exact ⟨_, by rw [show begL (b.drop 4) = false by simpa using hb4]⟩
    · rename_i hb2; rw [if_neg hb2, h]; exact ⟨_, rfl⟩
  · cases h
/-! tramway/tramwaylaw20.from -/
def c_lfrom : ACode := (.seq (.reg none [⟨(some 1), (.box 25 21 (.t 0)), none⟩, ⟨(some 2), (.new 28 [(1, (.str [])), (20, (.blob (List.replicate 20 (.int .u8 0))))]), none⟩]) (.seq (.reg (some [(0, false), (1, false), (2, false), (3, false), (4, false), (5, false), (6, false), (7, false), (8, false), (9, true), (10, true)]) [⟨(some 3), (.fa 0 (.t 1)), none⟩, ⟨(some 4), (.ld (.one (.str [])) (.t 3)), none⟩, ⟨(some 5), (.fa 0 (.t 1)), none⟩, ⟨(some 6), (.ld (.one (.str [])) (.t 5)), none⟩, ⟨(some 7), (.len none true (.t 6)), none⟩, ⟨(some 8), (.mm false (.t 7) (.c (.int .i64 300))), none⟩, ⟨(some 9), (.slS (.t 4) none (some (.t 8))), none⟩, ⟨(some 10), (.fa 1 (.t 1)), none⟩, ⟨(some 11), (.ld (.arr 20) (.t 10)), none⟩, ⟨(some 12), (.build [(1, (.str [])), (20, (.blob (List.replicate 20 (.int .u8 0))))] [(0, (1, (.t 9))), (1, (20, (.t 11)))]), none⟩, ⟨none, (.st (.st 21) (.t 2) (.t 12)), none⟩]) .ret))
def r_lfrom : List ARes := [(.c 2 (.st 21))]
theorem s_lfrom : slimF Tryd.prog Tryd.f8 = some (c_lfrom, r_lfrom) := by kernel_rfl
def lfromS : Spec := fun xs hp => match xs, hp with
  | [.agg [(1, .str p), (20, .blob id)]], [] => some ⟨fromA (p.take 300) (unV id), [], id = (unV id).map U ∧ id.length = 20 ∧ p.length ≤ 9223372036854775807⟩
  | _, _ => none
theorem lfrom_ok : FnOk Tryd.prog 8 lfromS := by
  refine fn_slim2 Tryd.func8 s_lfrom (Φ := phiL []) phi_nil ?_
  intro xs hp r hs hp'
  unfold lfromS at hs
  split at hs
  · injection hs with hs; subst hs
    rename_i p id
    obtain ⟨p4, p5, p6⟩ := hp'
    generalize unV id = i at *
    subst p4
    rw [List.length_map] at p5
    refine ⟨len_le (by kernel_rfl), ?_⟩
    have hm : (min (p.length : Int) 300).toNat = min p.length 300 := by omega
    have ht : p.take (min p.length 300) = p.take 300 := by rw [Nat.min_comm, ← List.take_take, List.take_length]
    simp only [c_lfrom, r_lfrom, zidU, fromA, b_scope, b_gn, b_gr, b_gx, b_skip, b_reg, b_draw, b_seq, b_cond, b_block, b_loop, b_exit, b_ret, b_nil, b_op, b_gt, b_gf, b_dnil, b_dop, b_dgt, b_dgf, b_aq, isB_t, isB_u, isB_f, isB_g, isB_p, isU_t, isU_b, ifB_t, ifB_f, b_tn, b_tx, b_tr, b_in, b_ir, b_ix, b_rn, b_rr, b_pt, b_pn, b_pi, b_pv, b_of, b_mk0, b_mk1, b_lk, b_put, nR0, nRs, nRn, sR0, sRs, sRn, sRm, topR, hp_toS, lk_toS, ev_toS, ev_c, Nat.reduceDiv, Nat.reduceMod, exD, AOp.isH, preB, astep, stV, stN, stE, stC, aval, anew, aElems, frzS, frzH, aeff, slots, aret, ares, aress, AV.isTup, n_0, w_0, n_1, w_1, n_2, w_2, n_3, w_3, n_4, w_4, n_5, w_5, n_6, w_6, n_7, w_7, n_8, w_8, n_9, w_9, n_10, w_10, n_11, w_11, n_12, w_12, n_13, w_13, n_14, w_14, n_15, w_15, ofC_i, ofC_b, ofC_s, ofC_U, getD_mapU, getD_Bs, Bs_len, Int.toNat_natCast, opd, pt, tk, subp, rdP, Rt.size, Rt.isAgg, Rt.zv, aBin, aInt, aStr, arI, aUn, aToInt, aToStr, aIdxS, zv, aIdxA, aIa, aIaA, aFa, aLd, aFld, pparts, aLo, aHi, cutL, aSlS, aSl, aExt, aNck, aNilc, AV.isStr, aLen, AV.one, AV.multi, pureB, szOk, psz, drp, spl, aEqB, aEqA, aMm, aMkfn, aMkif, aBuild, toV, aBuildA, wrP, unparts, view, nilS, St.ev, lk, St.put, St.pin, St.pinV, acall0_if, acall1, acall2, acall3_none, acall3_if, acall3b, emp3, pv, pvr, pvs, isP_nil, isP_cons, bor, bor0, bor1, phiL_nil, phiL_at, tau, lentO, okIds, flatC, flatB, flatOs, flatO, place, setAll_nil, setAll_cons, nodupB, renObj, closeIds, addNew, idsOf, idsObj, posOf, lenOk_0, lenOk_1, lenOk_2, lenOk_3, lenOk_4, lenOk_8, ↓reduceIte, Option.isSome_none, Option.isSome_some, Bool.or_true, Bool.true_or,  Nat.reduceEqDiff, Nat.reduceBEq, Nat.reduceSub, Nat.reduceLT, beq_self_eq_true, List.map, List.set, List.map_cons, List.map_nil, List.flatMap_cons, List.flatMap_nil, List.flatten_cons, List.flatten_nil, true_and, and_true, List.length_cons, List.length_nil, Nat.reduceAdd, Nat.reduceLeDiff, List.nil_append, List.cons_append, List.append_nil, Option.map, mapO, ren, kp, kpI, ent, nilG, Option.bind, List.range, List.range.loop, List.getElem?_cons_zero, List.getElem?_cons_succ, List.getElem?_nil, List.getD_cons_zero, List.getD_cons_succ, List.drop_zero, List.drop_succ_cons, List.drop_nil, List.take_zero, List.take_succ_cons, List.all_cons, List.all_nil, List.isEmpty_nil, List.isEmpty_cons, Bool.and_true, Bool.true_and, Bool.not_true, Bool.not_false, List.contains_nil, reduceCtorEq, List.contains_cons, Bool.or_false, Bool.false_or, eq_self, forall_const, false_implies, Bool.false_eq_true, Nat.le_refl, List.length_map, List.length_set, List.length_replicate, and_self, implies_true, Bool.and_self, Bool.false_and, Bool.and_false, finP, finI, List.take_zero, Int.cast_ofNat_Int, decide_true, decide_false, Int.reduceEq, Int.reduceNe, Int.reduceLT, Int.reduceLE, Int.reduceToNat, bq_t, bq_f, bq_u, bq_g]
    exact ⟨⟨by omega, by omega⟩, p5, by rw [hm, ht]⟩
  · cases hs
/-! tramway/tramwaylaw20.of -/
def c_lof : ACode := (.seq (.reg none [⟨(some 1), (.box 28 21 (.t 0)), none⟩, ⟨(some 2), (.new 25 [(1, (.str [])), (20, (.blob (List.replicate 20 (.int .u8 0))))]), none⟩]) (.seq (.reg none [⟨(some 3), (.fa 0 (.t 1)), none⟩, ⟨(some 4), (.ld (.one (.str [])) (.t 3)), none⟩, ⟨(some 5), (.fa 1 (.t 1)), none⟩, ⟨(some 6), (.ld (.arr 20) (.t 5)), none⟩, ⟨(some 7), (.build [(1, (.str [])), (20, (.blob (List.replicate 20 (.int .u8 0))))] [(0, (1, (.t 4))), (1, (20, (.t 6)))]), none⟩, ⟨none, (.st (.st 21) (.t 2) (.t 7)), none⟩]) .ret))
def r_lof : List ARes := [(.c 2 (.st 21))]
theorem s_lof : slimF Tryd.prog Tryd.f11 = some (c_lof, r_lof) := by kernel_rfl
def lofS : Spec := fun xs hp => match xs, hp with
  | [.agg [(1, .str p), (20, .blob id)]], [] => some ⟨fromA p (unV id), [], id = (unV id).map U ∧ id.length = 20⟩
  | _, _ => none
theorem lof_ok : FnOk Tryd.prog 11 lofS := by
  refine fn_slim2 Tryd.func11 s_lof (Φ := phiL []) phi_nil ?_
  intro xs hp r hs hp'
  unfold lofS at hs
  split at hs
  · injection hs with hs; subst hs
    rename_i p id
    obtain ⟨p4, p5⟩ := hp'
    generalize unV id = i at *
    subst p4
    rw [List.length_map] at p5
    refine ⟨len_le (by kernel_rfl), ?_⟩
    simp only [c_lof, r_lof, zidU, fromA, b_scope, b_gn, b_gr, b_gx, b_skip, b_reg, b_draw, b_seq, b_cond, b_block, b_loop, b_exit, b_ret, b_nil, b_op, b_gt, b_gf, b_dnil, b_dop, b_dgt, b_dgf, b_aq, isB_t, isB_u, isB_f, isB_g, isB_p, isU_t, isU_b, ifB_t, ifB_f, b_tn, b_tx, b_tr, b_in, b_ir, b_ix, b_rn, b_rr, b_pt, b_pn, b_pi, b_pv, b_of, b_mk0, b_mk1, b_lk, b_put, nR0, nRs, nRn, sR0, sRs, sRn, sRm, topR, hp_toS, lk_toS, ev_toS, ev_c, Nat.reduceDiv, Nat.reduceMod, exD, AOp.isH, preB, astep, stV, stN, stE, stC, aval, anew, aElems, frzS, frzH, aeff, slots, aret, ares, aress, AV.isTup, n_0, w_0, n_1, w_1, n_2, w_2, n_3, w_3, n_4, w_4, n_5, w_5, n_6, w_6, n_7, w_7, n_8, w_8, n_9, w_9, n_10, w_10, n_11, w_11, n_12, w_12, n_13, w_13, n_14, w_14, n_15, w_15, ofC_i, ofC_b, ofC_s, ofC_U, getD_mapU, getD_Bs, Bs_len, Int.toNat_natCast, opd, pt, tk, subp, rdP, Rt.size, Rt.isAgg, Rt.zv, aBin, aInt, aStr, arI, aUn, aToInt, aToStr, aIdxS, zv, aIdxA, aIa, aIaA, aFa, aLd, aFld, pparts, aLo, aHi, cutL, aSlS, aSl, aExt, aNck, aNilc, AV.isStr, aLen, AV.one, AV.multi, pureB, szOk, psz, drp, spl, aEqB, aEqA, aMm, aMkfn, aMkif, aBuild, toV, aBuildA, wrP, unparts, view, nilS, St.ev, lk, St.put, St.pin, St.pinV, acall0_if, acall1, acall2, acall3_none, acall3_if, acall3b, emp3, pv, pvr, pvs, isP_nil, isP_cons, bor, bor0, bor1, phiL_nil, phiL_at, tau, lentO, okIds, flatC, flatB, flatOs, flatO, place, setAll_nil, setAll_cons, nodupB, renObj, closeIds, addNew, idsOf, idsObj, posOf, lenOk_0, lenOk_1, lenOk_2, lenOk_3, lenOk_4, lenOk_8, ↓reduceIte, Option.isSome_none, Option.isSome_some, Bool.or_true, Bool.true_or,  Nat.reduceEqDiff, Nat.reduceBEq, Nat.reduceSub, Nat.reduceLT, beq_self_eq_true, List.map, List.set, List.map_cons, List.map_nil, List.flatMap_cons, List.flatMap_nil, List.flatten_cons, List.flatten_nil, true_and, and_true, List.length_cons, List.length_nil, Nat.reduceAdd, Nat.reduceLeDiff, List.nil_append, List.cons_append, List.append_nil, Option.map, mapO, ren, kp, kpI, ent, nilG, Option.bind, List.range, List.range.loop, List.getElem?_cons_zero, List.getElem?_cons_succ, List.getElem?_nil, List.getD_cons_zero, List.getD_cons_succ, List.drop_zero, List.drop_succ_cons, List.drop_nil, List.take_zero, List.take_succ_cons, List.all_cons, List.all_nil, List.isEmpty_nil, List.isEmpty_cons, Bool.and_true, Bool.true_and, Bool.not_true, Bool.not_false, List.contains_nil, reduceCtorEq, List.contains_cons, Bool.or_false, Bool.false_or, eq_self, forall_const, false_implies, Bool.false_eq_true, Nat.le_refl, List.length_map, List.length_set, List.length_replicate, and_self, implies_true, Bool.and_self, Bool.false_and, Bool.and_false, finP, finI, List.take_zero, Int.cast_ofNat_Int, decide_true, decide_false, Int.reduceEq, Int.reduceNe, Int.reduceLT, Int.reduceLE, Int.reduceToNat, bq_t, bq_f, bq_u, bq_g]
    exact p5
  · cases hs
/-! tramway/tramwaylaw20.known -/
def c_known20 : ACode := (.seq (.reg none [⟨(some 0), (.mv (.c (.bool false))), none⟩]) (.seq (.reg none [⟨(some 9), (.buildSl 5 1 [(.c (.int .u8 1)), (.c (.int .u8 10))]), none⟩, ⟨(some 10), (.mark (.t 9)), none⟩, ⟨(some 11), (.build [(1, (.str [])), (20, (.blob (List.replicate 20 (.int .u8 0))))] []), none⟩, ⟨(some 12), (.call 9 [(.t 10), (.t 11)]), none⟩, ⟨(some 8), (.mv (.t 12)), none⟩, ⟨(some 13), (.ext (.t 8) 0), none⟩, ⟨(some 14), (.ext (.t 8) 1), none⟩, ⟨(some 1), (.mv (.t 13)), none⟩, ⟨(some 2), (.mv (.t 14)), none⟩]) (.seq (.reg none [⟨(some 16), (.buildSl 5 1 [(.c (.int .u8 120))]), none⟩, ⟨(some 17), (.mark (.t 16)), none⟩, ⟨(some 18), (.buildA (List.replicate 20 (.int .u8 0)) [(0, (.c (.int .u8 1)))]), none⟩, ⟨(some 19), (.build [(1, (.str [])), (20, (.blob (List.replicate 20 (.int .u8 0))))] [(0, (1, (.c (.str [97])))), (1, (20, (.t 18)))]), none⟩, ⟨(some 20), (.call 9 [(.t 17), (.t 19)]), none⟩, ⟨(some 15), (.mv (.t 20)), none⟩, ⟨(some 21), (.ext (.t 15) 0), none⟩, ⟨(some 22), (.ext (.t 15) 1), none⟩, ⟨(some 3), (.mv (.t 21)), none⟩, ⟨(some 4), (.mv (.t 22)), none⟩]) (.seq (.reg none [⟨(some 24), (.buildSl 5 1 [(.c (.int .u8 1)), (.c (.int .u8 10)), (.c (.int .u8 120))]), none⟩, ⟨(some 25), (.mark (.t 24)), none⟩, ⟨(some 26), (.call 13 [(.t 25)]), none⟩, ⟨(some 23), (.mv (.t 26)), none⟩, ⟨(some 27), (.ext (.t 23) 0), none⟩, ⟨(some 28), (.ext (.t 23) 1), none⟩, ⟨(some 29), (.ext (.t 23) 2), none⟩, ⟨(some 6), (.new 28 [(1, (.str [])), (20, (.blob (List.replicate 20 (.int .u8 0))))]), none⟩, ⟨(some 5), (.mv (.t 27)), none⟩, ⟨none, (.st (.st 21) (.t 6) (.t 28)), none⟩, ⟨(some 7), (.mv (.t 29)), none⟩]) (.seq (.reg none [⟨(some 30), (.mv (.t 2)), none⟩, ⟨(some 31), (.bin .eql (.t 30) (.c (.int .i64 0))), none⟩, ⟨(some 32), (.mv (.t 31)), none⟩, ⟨(some 33), (.mv (.t 1)), (some (32, true))⟩, ⟨(some 34), (.toStr (.t 33)), (some (32, true))⟩, ⟨(some 35), (.bin .eql (.t 34) (.c (.str [1, 10, 1, 10, 1, 10]))), (some (32, true))⟩, ⟨(some 36), (.pick (.t 32) (.t 35) (.c (.bool false))), none⟩, ⟨(some 37), (.mv (.t 36)), none⟩, ⟨(some 38), (.mv (.t 4)), (some (37, true))⟩, ⟨(some 39), (.bin .eql (.t 38) (.c (.int .i64 0))), (some (37, true))⟩, ⟨(some 40), (.pick (.t 37) (.t 39) (.c (.bool false))), none⟩, ⟨(some 41), (.mv (.t 40)), none⟩, ⟨(some 42), (.mv (.t 3)), (some (41, true))⟩, ⟨(some 43), (.len none false (.t 42)), (some (41, true))⟩, ⟨(some 44), (.bin .eql (.t 43) (.c (.int .i64 63))), (some (41, true))⟩, ⟨(some 45), (.pick (.t 41) (.t 44) (.c (.bool false))), none⟩, ⟨(some 46), (.mv (.t 45)), none⟩, ⟨(some 47), (.mv (.t 7)), (some (46, true))⟩, ⟨(some 48), (.bin .eql (.t 47) (.c (.int .i64 4))), (some (46, true))⟩, ⟨(some 49), (.pick (.t 46) (.t 48) (.c (.bool false))), none⟩, ⟨(some 0), (.mv (.t 49)), none⟩]) .ret)))))
def r_known20 : List ARes := [(.t 0)]
theorem s_known20 : slimF Tryd.prog Tryd.f12 = some (c_known20, r_known20) := by kernel_rfl
theorem printFR_t {bs : List AV} {p : List UInt8} {id : List Value} {o : Option (List UInt8)} (h : prnC (unB bs) p (unV id) = o) (h2 : bs = Bs (unB bs) ∧ bs.length ≤ 1000000 ∧ p.length ≤ 1000000 ∧ id = (unV id).map U ∧ id.length = 20) : printFR bs p id = some ⟨outF o, [], True⟩ := by
  unfold printFR; rw [h, eq_true h2]
theorem printFR_b {l p i : List UInt8} (h1 : l.length ≤ 1000000) (h2 : p.length ≤ 1000000) (h3 : i.length = 20) : printFR (Bs l) p (i.map U) = some ⟨outF (prnC l p i), [], True⟩ :=
  printFR_t (by rw [unB_Bs, unV_U]) ⟨by rw [unB_Bs], by rw [Bs_len]; exact h1, h2, by rw [unV_U], by rw [List.length_map]; exact h3⟩
theorem parFR_t {bs : List AV} {o : Option (List UInt8 × List UInt8 × List UInt8)} (h : parC (unB bs) = o) (h2 : bs = Bs (unB bs) ∧ bs.length ≤ 50000) : parFR bs = some ⟨outPF o, [], True⟩ := by
  unfold parFR; rw [h, eq_true h2]
theorem parFR_b {l : List UInt8} (h1 : l.length ≤ 50000) : parFR (Bs l) = some ⟨outPF (parC l), [], True⟩ := parFR_t (by rw [unB_Bs]) ⟨by rw [unB_Bs], by rw [Bs_len]; exact h1⟩
theorem flat_B (l : List UInt8) : ∀ x, x ∈ Bs l → flatB 4 x = true := by
  intro x hx
  obtain ⟨u, _, rfl⟩ := List.mem_map.1 hx
  rfl
def id1 : List UInt8 := 1 :: List.replicate 19 0
theorem known_p1 (P : Prop) (h : P) : outS 1 (prnC (unB [.int .u8 1, .int .u8 10]) [] (unV (zid.map U))) P = some ⟨.tup [.own 0 1, .int .i64 0], [.row 5 1 1 (Bs [1, 10, 1, 10, 1, 10])], True⟩ := by
  rw [show prnC (unB [.int .u8 1, .int .u8 10]) [] (unV (zid.map U)) = some [1, 10, 1, 10, 1, 10] by kernel_rfl, eq_true h]; rfl
theorem known_p2 : ∃ (b : UInt8) (o : List UInt8), (b :: o).length = 63 ∧ ∀ P : Prop, P → outS 1 (prnC (unB [.int .u8 120]) [97] (unV (id1.map U))) P = some ⟨.tup [.own 0 1, .int .i64 0], [.row 5 1 1 (Bs (b :: o))], True⟩ :=
  ⟨1, (f1L ++ [97] ++ f2L ++ hexL id1 ++ f3L ++ [120]).tail, by kernel_rfl, fun P h => by
    rw [show prnC (unB [.int .u8 120]) [97] (unV (id1.map U)) = some (f1L ++ [97] ++ f2L ++ hexL id1 ++ f3L ++ [120]) by kernel_rfl, eq_true h]; rfl⟩
theorem known_p3 (P : Prop) (h : P) : parS1 (unB [.int .u8 1, .int .u8 10, .int .u8 120]) P = some ⟨.tup [.con (.slice none 0 0), .agg [(1, .str []), (20, .blob (zid.map U))], .int .i64 4], [], True⟩ := by
  rw [eq_true h]; unfold parS1
  rw [if_pos (by kernel_rfl), show parC (unB [.int .u8 1, .int .u8 10, .int .u8 120]) = none by kernel_rfl]
theorem known_q1 : ([AV.int .u8 1, .int .u8 10] = Bs (unB [AV.int .u8 1, .int .u8 10]) ∧ [AV.int .u8 1, .int .u8 10].length ≤ 1000000 ∧ ([] : List UInt8).length ≤ 1000000 ∧ zid.map U = (unV (zid.map U)).map U ∧ (zid.map U).length = 20) := ⟨by kernel_rfl, by decide, by decide, by kernel_rfl, by kernel_rfl⟩
theorem known_q2 : ([AV.int .u8 120] = Bs (unB [AV.int .u8 120]) ∧ [AV.int .u8 120].length ≤ 1000000 ∧ ([97] : List UInt8).length ≤ 1000000 ∧ id1.map U = (unV (id1.map U)).map U ∧ (id1.map U).length = 20) := ⟨by kernel_rfl, by decide, by decide, by kernel_rfl, by kernel_rfl⟩
theorem known_q3 : ([AV.int .u8 1, .int .u8 10, .int .u8 120] = Bs (unB [AV.int .u8 1, .int .u8 10, .int .u8 120]) ∧ [AV.int .u8 1, .int .u8 10, .int .u8 120].length ≤ 50000) := ⟨by kernel_rfl, by decide⟩
theorem printS_k1 : printS [.sl 1 [.int .u8 1, .int .u8 10], .agg [(1, .str []), (20, .blob (zid.map U))]] [] = some ⟨.tup [.own 0 1, .int .i64 0], [.row 5 1 1 (Bs [1, 10, 1, 10, 1, 10])], True⟩ := known_p1 _ known_q1
theorem printS_k2 : ∃ (b : UInt8) (o : List UInt8), (b :: o).length = 63 ∧ printS [.sl 1 [.int .u8 120], .agg [(1, .str [97]), (20, .blob (id1.map U))]] [] = some ⟨.tup [.own 0 1, .int .i64 0], [.row 5 1 1 (Bs (b :: o))], True⟩ := by
  obtain ⟨b, o, h1, h2⟩ := known_p2
  exact ⟨b, o, h1, h2 _ known_q2⟩
theorem cparseS_k3 : cparseS [.sl 1 [.int .u8 1, .int .u8 10, .int .u8 120]] [] = some ⟨.tup [.con (.slice none 0 0), .agg [(1, .str []), (20, .blob (zid.map U))], .int .i64 4], [], True⟩ := known_p3 _ known_q3
def known20S : Spec := fun xs hp => match xs, hp with
  | [], [] => some ⟨.bool true, [], True⟩
  | _, _ => none
theorem known20_ok : FnOk Tryd.prog 12 known20S := by
  refine fn_slim2 Tryd.func12 s_known20 (Φ := phiL [(9, [], printS), (13, [], cparseS)]) (phi_cons printS_ok (by kernel_rfl) (phi_cons cparse_ok (by kernel_rfl) phi_nil)) ?_
  intro xs hp r hs hp'
  unfold known20S at hs
  split at hs
  · injection hs with hs; subst hs
    refine ⟨len_le (by kernel_rfl), ?_⟩
    obtain ⟨b, o, ho, kp2⟩ := printS_k2
    simp only [List.length_cons] at ho
    have hd : decide (((o.length + 1 : Nat) : Int) = 63) = true := decide_eq_true (by omega)
    have e2 : (zid.map U).set 0 (Value.int .u8 1) = id1.map U := rfl
    have zl : zid.length = 20 := rfl
    simp only [c_known20, r_known20, zidU, e2, zl, printS_k1, kp2, cparseS_k3, hd, unB_Bs, decide_true, b_scope, b_gn, b_gr, b_gx, b_skip, b_reg, b_draw, b_seq, b_cond, b_block, b_loop, b_exit, b_ret, b_nil, b_op, b_gt, b_gf, b_dnil, b_dop, b_dgt, b_dgf, b_aq, isB_t, isB_u, isB_f, isB_g, isB_p, isU_t, isU_b, ifB_t, ifB_f, b_tn, b_tx, b_tr, b_in, b_ir, b_ix, b_rn, b_rr, b_pt, b_pn, b_pi, b_pv, b_of, b_mk0, b_mk1, b_lk, b_put, nR0, nRs, nRn, sR0, sRs, sRn, sRm, topR, hp_toS, lk_toS, ev_toS, ev_c, Nat.reduceDiv, Nat.reduceMod, exD, AOp.isH, preB, astep, stV, stN, stE, stC, aval, anew, aElems, frzS, frzH, aeff, slots, aret, ares, aress, AV.isTup, n_0, w_0, n_1, w_1, n_2, w_2, n_3, w_3, n_4, w_4, n_5, w_5, n_6, w_6, n_7, w_7, n_8, w_8, n_9, w_9, n_10, w_10, n_11, w_11, n_12, w_12, n_13, w_13, n_14, w_14, n_15, w_15, ofC_i, ofC_b, ofC_s, ofC_U, getD_mapU, getD_Bs, Bs_len, Int.toNat_natCast, opd, pt, tk, subp, rdP, Rt.size, Rt.isAgg, Rt.zv, aBin, aInt, aStr, arI, aUn, aToInt, aToStr, aIdxS, zv, aIdxA, aIa, aIaA, aFa, aLd, aFld, pparts, aLo, aHi, cutL, aSlS, aSl, aExt, aNck, aNilc, AV.isStr, aLen, AV.one, AV.multi, pureB, szOk, psz, drp, spl, aEqB, aEqA, aMm, aMkfn, aMkif, aBuild, toV, aBuildA, wrP, unparts, view, nilS, St.ev, lk, St.put, St.pin, St.pinV, acall0_if, acall1, acall2, acall3_none, acall3_if, acall3b, emp3, pv, pvr, pvs, isP_nil, isP_cons, bor, bor0, bor1, phiL_nil, phiL_at, tau, lentO, okIds, flatC, flatB, flatOs, flatO, place, setAll_nil, setAll_cons, nodupB, renObj, closeIds, addNew, idsOf, idsObj, posOf, lenOk_0, lenOk_1, lenOk_2, lenOk_3, lenOk_4, lenOk_8, ↓reduceIte, Option.isSome_none, Option.isSome_some, Bool.or_true, Bool.true_or,  Nat.reduceEqDiff, Nat.reduceBEq, Nat.reduceSub, Nat.reduceLT, beq_self_eq_true, List.map, List.set, List.map_cons, List.map_nil, List.flatMap_cons, List.flatMap_nil, List.flatten_cons, List.flatten_nil, true_and, and_true, List.length_cons, List.length_nil, Nat.reduceAdd, Nat.reduceLeDiff, List.nil_append, List.cons_append, List.append_nil, Option.map, mapO, ren, kp, kpI, ent, nilG, Option.bind, List.range, List.range.loop, List.getElem?_cons_zero, List.getElem?_cons_succ, List.getElem?_nil, List.getD_cons_zero, List.getD_cons_succ, List.drop_zero, List.drop_succ_cons, List.drop_nil, List.take_zero, List.take_succ_cons, List.all_cons, List.all_nil, List.isEmpty_nil, List.isEmpty_cons, Bool.and_true, Bool.true_and, Bool.not_true, Bool.not_false, List.contains_nil, reduceCtorEq, List.contains_cons, Bool.or_false, Bool.false_or, eq_self, forall_const, false_implies, Bool.false_eq_true, Nat.le_refl, List.length_map, List.length_set, List.length_replicate, and_self, implies_true, Bool.and_self, Bool.false_and, Bool.and_false, finP, finI, List.take_zero, Int.cast_ofNat_Int, decide_true, decide_false, Int.reduceEq, Int.reduceNe, Int.reduceLT, Int.reduceLE, Int.reduceToNat, bq_t, bq_f, bq_u, bq_g]
    exact ⟨fun x hx => flat_B _ x hx, rfl, fun x hx => flat_B _ x hx⟩
  · cases hs
end Go.Proofs.YtehbpibpbfomhaaDoor
