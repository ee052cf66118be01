import Derived.Test.YtlkaaoekbmegkaaGreatDoorChecked
import Derived.Test.YtlkaaoekbmegkaaGreatDoorQAMS
import Derived.Test.YtlkaaoekbmegkaaGreatDoorQRunes
import Derived.Test.YtlkaaoekbmegkaaGreatDoorQFNRight
import Derived.Lib.IndexLaws
namespace Go.Proofs.YtlkaaoekbmegkaaGreatDoor
set_option linter.all false
open Go.RowKit
def c_digit : ACode := (.seq (.reg none [⟨(some 2), (.mv (.c (.int .u8 0))), none⟩]) (.seq (.seq (.reg none [⟨(some 3), (.mv (.t 0)), none⟩, ⟨(some 4), (.bin .lss (.t 3) (.c (.int .i64 10))), none⟩]) (.cond (.t 4) (.seq (.reg none [⟨(some 5), (.mv (.t 0)), none⟩, ⟨(some 6), (.bin .add (.c (.int .i64 48)) (.t 5)), none⟩, ⟨(some 7), (.toInt .u8 (.t 6)), none⟩, ⟨(some 2), (.mv (.t 7)), none⟩]) .ret) .skip)) (.seq (.reg none [⟨(some 8), (.mv (.t 0)), none⟩, ⟨(some 9), (.bin .add (.c (.int .i64 87)) (.t 8)), none⟩, ⟨(some 10), (.toInt .u8 (.t 9)), none⟩, ⟨(some 2), (.mv (.t 10)), none⟩]) .ret)))
def r_digit : List ARes := [(.t 2)]
theorem s_digit : slimF Tryz.prog Tryz.f66 = some (c_digit, r_digit) := by kernel_rfl
def digN (n : Int) : Int := if n < 10 then 48 + n else 87 + n
def digitS : Spec := fun xs hp => match xs, hp with
  | [.int .i64 n], [] => some ⟨.int .u8 (digN n), [], 0 ≤ n ∧ n < 16⟩
  | _, _ => none
theorem digit_ok : FnOk Tryz.prog 66 digitS := by
  refine fn_slim Tryz.func66 s_digit (Φ := phiL []) phi_nil ?_
  intro xs hp r hs hp'
  unfold digitS at hs
  split at hs
  · injection hs with hs; subst hs
    rename_i n
    refine ⟨len_le (by kernel_rfl), ?_⟩
    obtain ⟨p1, p2⟩ := hp'
    simp only [c_digit, r_digit, awp_scope, noG_n, noG_r, noG_x, awp_skip, awp_reg, awp_draw, awp_seq, awp_cond, awp_block, awp_loop, awp_exit, awp_ret, arun_nil, arun_op, arun_gt, arun_gf, arunD_nil, arunD_op, arunD_gt, arunD_gf, aq_some, isB_t, isB_u, isB_f, isB_g, isB_p, isU_t, isU_b, ifB_t, ifB_f, thenQ_n, thenQ_x, thenQ_r, inQ_n, inQ_r, inQ_x, retQ_n, retQ_r, exD, AOp.isH, keepN, preB, avalP, pureR, astep, stV, stN, stE, stC, aval, anew, aElems, frzS, frzH, aeff, slots, aret, ares, aress, AV.isTup, eqFs, aEqS, ofC_i, ofC_b, ofC_s, ofC_U, getD_mapU, getD_Bs, Bs_len, Int.toNat_natCast, opd, pt, tk, subp, rdP, Rt.size, Rt.isAgg, Rt.zv, aBin, aInt, aStr, arI, aUn, aToInt, aToStr, aIdxS, zv, aIdxA, aIa, aIaA, aFa, aLd, aFld, pparts, aLo, aHi, cutL, aSlS, aSl, aExt, aNck, aNilc, AV.isStr, aLen, AV.one, AV.multi, pureB, szOk, psz, drp, spl, aEqB, aEqA, aMm, aMkfn, aMkif, aBuild, toV, aBuildA, wrP, unparts, view, nilS, St.ev, lk, St.put, St.pin, St.pinV, acall0, acall1, acall2, acall3, bor, bor0, bor1, phiL_nil, phiL_at, tau, lentO, okIds, flatC, flatB, flatOs, flatO, flatPs, place, setAll_nil, setAll_cons, nodupB, renObj, closeIds, addNew, idsOf, idsObj, posOf, lenOk_0, lenOk_1, lenOk_2, lenOk_3, lenOk_4, lenOk_8, ↓reduceIte, Option.isSome_none, Option.isSome_some, Bool.or_true, Bool.true_or,  Nat.reduceEqDiff, Nat.reduceBEq, Nat.reduceSub, Nat.reduceLT, beq_self_eq_true, List.map, List.set, List.map_cons, List.map_nil, List.flatMap_cons, List.flatMap_nil, List.flatten_cons, List.flatten_nil, true_and, and_true, List.length_cons, List.length_nil, Nat.reduceAdd, Nat.reduceLeDiff, List.nil_append, List.cons_append, List.append_nil, Option.map, mapO, ren, kp, kpI, ent, nilG, Option.bind, List.range, List.range.loop, List.getElem?_cons_zero, List.getElem?_cons_succ, List.getElem?_nil, List.getD_cons_zero, List.getD_cons_succ, List.drop_zero, List.drop_succ_cons, List.drop_nil, List.take_zero, List.take_succ_cons, List.all_cons, List.all_nil, List.isEmpty_nil, List.isEmpty_cons, Bool.and_true, Bool.true_and, Bool.not_true, Bool.not_false, List.contains_nil, reduceCtorEq, List.contains_cons, Bool.or_false, Bool.false_or, eq_self, forall_const, false_implies, Bool.false_eq_true, Nat.le_refl, List.length_map, List.length_set, List.length_replicate, and_self, implies_true]
    simp only [inI, digN, Bool.false_eq_true, renObj, finP, finI, closeIds, addNew, idsOf, List.flatMap_nil, List.flatMap_cons, List.append_nil, List.nil_append, List.take_zero, nodupB, posOf, idsObj, List.getD_cons_zero, List.getD_cons_succ, List.range, List.range.loop, ren, lentO, mapO, Option.map, ↓reduceIte, Nat.reduceEqDiff, true_and, and_true, List.getElem?_cons_zero, List.getElem?_cons_succ, Nat.reduceAdd, List.contains_nil, Bool.not_false, Bool.and_true, List.map_nil, List.map_cons, List.take_succ_cons]
    refine ⟨fun h => ?_, fun h => ?_⟩
    · have := of_decide_eq_true h
      rw [if_pos this]
      exact ⟨by omega, congrArg some (congrArg (AV.int .u8) (wrap8 (by omega) (by omega)))⟩
    · have := of_decide_eq_false h
      rw [if_neg this]
      exact ⟨by omega, congrArg some (congrArg (AV.int .u8) (wrap8 (by omega) (by omega)))⟩
  · cases hs
def b_rhex_0 : ACode := (.seq (.seq (.reg none [⟨(some 5), (.mv (.t 4)), none⟩, ⟨(some 6), (.bin .lss (.t 5) (.c (.int .i64 20))), none⟩]) (.cond (.t 6) .skip (.exit 0))) (.seq (.block 1 (.reg (some [(0, false), (1, false), (2, false), (3, false), (4, false), (5, false), (6, false), (6, false), (6, false), (6, false), (6, false), (6, false), (12, false), (13, false), (14, true), (15, true)]) [⟨(some 9), (.mv (.t 3)), none⟩, ⟨(some 10), (.mv (.t 4)), none⟩, ⟨(some 11), (.iaA 20 (.t 1) (.t 10)), none⟩, ⟨(some 12), (.ld (.one (.int .u8 0)) (.t 11)), none⟩, ⟨(some 13), (.toInt .i64 (.t 12)), none⟩, ⟨(some 14), (.bin .quo (.t 13) (.c (.int .i64 16))), none⟩, ⟨(some 15), (.call 66 [(.t 14)]), none⟩, ⟨(some 16), (.mv (.t 4)), none⟩, ⟨(some 17), (.iaA 20 (.t 1) (.t 16)), none⟩, ⟨(some 18), (.ld (.one (.int .u8 0)) (.t 17)), none⟩, ⟨(some 19), (.toInt .i64 (.t 18)), none⟩, ⟨(some 20), (.bin .rem (.t 19) (.c (.int .i64 16))), none⟩, ⟨(some 21), (.call 66 [(.t 20)]), none⟩, ⟨(some 22), (.buildSl 5 1 [(.t 15), (.t 21)]), none⟩, ⟨(some 23), (.app 5 1 1 (.t 9) (.t 22)), none⟩, ⟨(some 3), (.mv (.t 23)), none⟩])) (.reg none [⟨(some 7), (.mv (.t 4)), none⟩, ⟨(some 8), (.bin .add (.t 7) (.c (.int .i64 1))), none⟩, ⟨(some 4), (.mv (.t 8)), none⟩])))
def c_rhex : ACode := (.seq (.reg none [⟨(some 1), (.box 22 20 (.t 0)), none⟩, ⟨(some 2), (.mv (.c (.str []))), none⟩]) (.seq (.reg none [⟨(some 3), (.mv (.c (.con (.slice none 0 0)))), none⟩]) (.seq (.seq (.reg none [⟨(some 4), (.mv (.c (.int .i64 0))), none⟩]) (.block 0 (.loop b_rhex_0))) (.seq (.reg none [⟨(some 24), (.mv (.t 3)), none⟩, ⟨(some 25), (.toStr (.t 24)), none⟩, ⟨(some 2), (.mv (.t 25)), none⟩]) .ret))))
def r_rhex : List ARes := [(.t 2)]
theorem s_rhex : slimF Tryz.prog Tryz.f38 = some (c_rhex, r_rhex) := by kernel_rfl
def hexI (l : List UInt8) : List UInt8 := l.flatMap fun u => [UInt8.ofNat (digN (u.toNat / 16)).toNat, UInt8.ofNat (digN (u.toNat % 16)).toNat]
theorem hexI_len (l : List UInt8) : (hexI l).length = 2 * l.length := by
  unfold hexI
  induction l with
  | nil => rfl
  | cons u l ih => rw [List.flatMap_cons, List.length_append, ih]; simp; omega
theorem hexI_append (l m : List UInt8) : hexI (l ++ m) = hexI l ++ hexI m := List.flatMap_append
theorem digN_le {n : Int} (h : 0 ≤ n) (h' : n < 16) : 0 ≤ digN n ∧ digN n < 256 := by unfold digN; split <;> omega
def rhexS : Spec := fun xs hp => match xs, hp with
  | [.blob cs], [] => some ⟨.str (hexI (unV cs)), [], cs = (unV cs).map U ∧ cs.length = 20⟩
  | _, _ => none
theorem rhex_ok : FnOk Tryz.prog 38 rhexS := by
  refine fn_slim Tryz.func38 s_rhex (Φ := phiL [(66, [], digitS)]) (phi_cons digit_ok (by kernel_rfl) phi_nil) ?_
  intro xs hp r hs hp'
  unfold rhexS at hs
  split at hs
  · injection hs with hs; subst hs
    rename_i cs
    refine ⟨len_le (by kernel_rfl), ?_⟩
    obtain ⟨p1, p2⟩ := hp'
    generalize hl : unV cs = l at *
    subst p1
    have hl : l.length = 20 := by simpa using p2
    simp only [c_rhex, r_rhex, awp_scope, noG_n, noG_r, noG_x, awp_skip, awp_reg, awp_draw, awp_seq, awp_cond, awp_block, awp_loop, awp_exit, awp_ret, arun_nil, arun_op, arun_gt, arun_gf, arunD_nil, arunD_op, arunD_gt, arunD_gf, aq_some, isB_t, isB_u, isB_f, isB_g, isB_p, isU_t, isU_b, ifB_t, ifB_f, thenQ_n, thenQ_x, thenQ_r, inQ_n, inQ_r, inQ_x, retQ_n, retQ_r, exD, AOp.isH, keepN, preB, avalP, pureR, astep, stV, stN, stE, stC, aval, anew, aElems, frzS, frzH, aeff, slots, aret, ares, aress, AV.isTup, eqFs, aEqS, ofC_i, ofC_b, ofC_s, ofC_U, getD_mapU, getD_Bs, Bs_len, Int.toNat_natCast, opd, pt, tk, subp, rdP, Rt.size, Rt.isAgg, Rt.zv, aBin, aInt, aStr, arI, aUn, aToInt, aToStr, aIdxS, zv, aIdxA, aIa, aIaA, aFa, aLd, aFld, pparts, aLo, aHi, cutL, aSlS, aSl, aExt, aNck, aNilc, AV.isStr, aLen, AV.one, AV.multi, pureB, szOk, psz, drp, spl, aEqB, aEqA, aMm, aMkfn, aMkif, aBuild, toV, aBuildA, wrP, unparts, view, nilS, St.ev, lk, St.put, St.pin, St.pinV, acall0, acall1, acall2, acall3, bor, bor0, bor1, phiL_nil, phiL_at, tau, lentO, okIds, flatC, flatB, flatOs, flatO, flatPs, place, setAll_nil, setAll_cons, nodupB, renObj, closeIds, addNew, idsOf, idsObj, posOf, lenOk_0, lenOk_1, lenOk_2, lenOk_3, lenOk_4, lenOk_8, ↓reduceIte, Option.isSome_none, Option.isSome_some, Bool.or_true, Bool.true_or,  Nat.reduceEqDiff, Nat.reduceBEq, Nat.reduceSub, Nat.reduceLT, beq_self_eq_true, List.map, List.set, List.map_cons, List.map_nil, List.flatMap_cons, List.flatMap_nil, List.flatten_cons, List.flatten_nil, true_and, and_true, List.length_cons, List.length_nil, Nat.reduceAdd, Nat.reduceLeDiff, List.nil_append, List.cons_append, List.append_nil, Option.map, mapO, ren, kp, kpI, ent, nilG, Option.bind, List.range, List.range.loop, List.getElem?_cons_zero, List.getElem?_cons_succ, List.getElem?_nil, List.getD_cons_zero, List.getD_cons_succ, List.drop_zero, List.drop_succ_cons, List.drop_nil, List.take_zero, List.take_succ_cons, List.all_cons, List.all_nil, List.isEmpty_nil, List.isEmpty_cons, Bool.and_true, Bool.true_and, Bool.not_true, Bool.not_false, List.contains_nil, reduceCtorEq, List.contains_cons, Bool.or_false, Bool.false_or, eq_self, forall_const, false_implies, Bool.false_eq_true, Nat.le_refl, List.length_map, List.length_set, List.length_replicate, and_self, implies_true]
    refine ⟨hl, ?_⟩
    refine loop_at [(3, 5, 1)] [1, 3, 4] [0, 1] (fun k : Nat => ⟨[(1, .ref 0 0 0), (3, .own 1 k), (4, .int .i64 k)], [.cells 22 [(20, .blob (l.map U))], .row 5 1 k (Bs (hexI (l.take k)))]⟩) (fun k => k ≤ 20) (fun k => 20 - k) 0 rfl (by omega) ⟨rfl, rfl⟩ (fun k hk => ?_)
    simp only [b_rhex_0, digitS, awp_scope, noG_n, noG_r, noG_x, awp_skip, awp_reg, awp_draw, awp_seq, awp_cond, awp_block, awp_loop, awp_exit, awp_ret, arun_nil, arun_op, arun_gt, arun_gf, arunD_nil, arunD_op, arunD_gt, arunD_gf, aq_some, isB_t, isB_u, isB_f, isB_g, isB_p, isU_t, isU_b, ifB_t, ifB_f, thenQ_n, thenQ_x, thenQ_r, inQ_n, inQ_r, inQ_x, retQ_n, retQ_r, exD, AOp.isH, keepN, preB, avalP, pureR, astep, stV, stN, stE, stC, aval, anew, aElems, frzS, frzH, aeff, slots, aret, ares, aress, AV.isTup, eqFs, aEqS, ofC_i, ofC_b, ofC_s, ofC_U, getD_mapU, getD_Bs, Bs_len, Int.toNat_natCast, opd, pt, tk, subp, rdP, Rt.size, Rt.isAgg, Rt.zv, aBin, aInt, aStr, arI, aUn, aToInt, aToStr, aIdxS, zv, aIdxA, aIa, aIaA, aFa, aLd, aFld, pparts, aLo, aHi, cutL, aSlS, aSl, aExt, aNck, aNilc, AV.isStr, aLen, AV.one, AV.multi, pureB, szOk, psz, drp, spl, aEqB, aEqA, aMm, aMkfn, aMkif, aBuild, toV, aBuildA, wrP, unparts, view, nilS, St.ev, lk, St.put, St.pin, St.pinV, acall0, acall1, acall2, acall3, bor, bor0, bor1, phiL_nil, phiL_at, tau, lentO, okIds, flatC, flatB, flatOs, flatO, flatPs, place, setAll_nil, setAll_cons, nodupB, renObj, closeIds, addNew, idsOf, idsObj, posOf, lenOk_0, lenOk_1, lenOk_2, lenOk_3, lenOk_4, lenOk_8, ↓reduceIte, Option.isSome_none, Option.isSome_some, Bool.or_true, Bool.true_or,  Nat.reduceEqDiff, Nat.reduceBEq, Nat.reduceSub, Nat.reduceLT, beq_self_eq_true, List.map, List.set, List.map_cons, List.map_nil, List.flatMap_cons, List.flatMap_nil, List.flatten_cons, List.flatten_nil, true_and, and_true, List.length_cons, List.length_nil, Nat.reduceAdd, Nat.reduceLeDiff, List.nil_append, List.cons_append, List.append_nil, Option.map, mapO, ren, kp, kpI, ent, nilG, Option.bind, List.range, List.range.loop, List.getElem?_cons_zero, List.getElem?_cons_succ, List.getElem?_nil, List.getD_cons_zero, List.getD_cons_succ, List.drop_zero, List.drop_succ_cons, List.drop_nil, List.take_zero, List.take_succ_cons, List.all_cons, List.all_nil, List.isEmpty_nil, List.isEmpty_cons, Bool.and_true, Bool.true_and, Bool.not_true, Bool.not_false, List.contains_nil, reduceCtorEq, List.contains_cons, Bool.or_false, Bool.false_or, eq_self, forall_const, false_implies, Bool.false_eq_true, Nat.le_refl, List.length_map, List.length_set, List.length_replicate, and_self, implies_true]
    refine ⟨fun h => ?_, fun h => ?_⟩
    · have hk := of_decide_eq_true h
      have hu := (l.getD k 0).toNat_lt
      have hk' : k < 20 := by omega
      rw [Int.tdiv_eq_ediv_of_nonneg (by omega), Int.tmod_eq_emod_of_nonneg (by omega)]
      have hlen : (hexI (l.take k)).length ≤ 40 := by rw [hexI_len, List.length_take]; omega
      simp only [inI, lenOk, bytesOk, IntKind.bits, Bs, List.length_append, List.length_map, List.length_cons, List.length_nil]
      refine ⟨by omega, by omega, by omega, ⟨by omega, by omega⟩, by omega, by omega, by omega, by omega, by omega, by omega, by omega, ⟨by omega, by omega⟩, k + 1, by omega, by omega, ?_⟩
      rw [take_succ' (by omega), hexI_append, List.map_append]
      simp only [hexI, List.flatMap_cons, List.flatMap_nil, List.append_nil, List.map_cons, List.map_nil]
      rw [ub_int (digN_le (by omega) (by omega)).1 (digN_le (by omega) (by omega)).2, ub_int (digN_le (by omega) (by omega)).1 (digN_le (by omega) (by omega)).2]
      rfl
    · have hk := of_decide_eq_false h
      rw [List.take_of_length_le (by omega)]
      simp only [Bool.false_eq_true, renObj, finP, finI, closeIds, addNew, idsOf, List.flatMap_nil, List.flatMap_cons, List.append_nil, List.nil_append, List.take_zero, nodupB, posOf, idsObj, List.getD_cons_zero, List.getD_cons_succ, List.range, List.range.loop, ren, lentO, mapO, Option.map, ↓reduceIte, Nat.reduceEqDiff, true_and, and_true, List.getElem?_cons_zero, List.getElem?_cons_succ, Nat.reduceAdd, List.contains_nil, Bool.not_false, Bool.and_true, List.map_nil, List.map_cons, List.take_succ_cons, unB_Bs]
  · cases hs
end Go.Proofs.YtlkaaoekbmegkaaGreatDoor
namespace Go.Proofs.YtlkaaoekbmegkaaGreatDoor
set_option linter.all false
open Go.RowKit
theorem digN_digs : ∀ k : Fin 16, digN (k.1 : Int) = ((digs.getD k.1 0).toNat : Int) := by decide
theorem hexI_eq : ∀ l : List UInt8, hexI l = hexL l
  | [] => rfl
  | u :: l => by
    have hu := u.toNat_lt
    have h1 := digN_digs ⟨u.toNat / 16, by omega⟩
    have h2 := digN_digs ⟨u.toNat % 16, by omega⟩
    simp only at h1 h2
    have ih := hexI_eq l
    unfold hexI at ih ⊢
    rw [List.flatMap_cons, ih, hexL, show (u.toNat : Int) / 16 = ((u.toNat / 16 : Nat) : Int) by omega, show (u.toNat : Int) % 16 = ((u.toNat % 16 : Nat) : Int) by omega, h1, h2]
    simp only [Int.toNat_natCast, UInt8.ofNat_toNat, List.cons_append, List.nil_append]
end Go.Proofs.YtlkaaoekbmegkaaGreatDoor
namespace Go.Proofs.YtlkaaoekbmegkaaGreatDoor
set_option linter.all false
open Go.RowKit
end Go.Proofs.YtlkaaoekbmegkaaGreatDoor
namespace Go.Proofs.YtlkaaoekbmegkaaGreatDoor
set_option linter.all false
theorem dv_digF : ∀ k : Fin 16, Lib.indexByte digs (digs.getD k.1 0) = (k.1 : Int) := by decide
theorem dv_dig (k : Nat) (h : k < 16) : dv (digs.getD k 0) = (k : Int) := by unfold dv; exact dv_digF ⟨k, h⟩
theorem hexL_at : ∀ (l : List UInt8) (j : Nat), j < l.length → (hexL l).getD (2 * j) 0 = digs.getD ((l.getD j 0).toNat / 16) 0 ∧ (hexL l).getD (2 * j + 1) 0 = digs.getD ((l.getD j 0).toNat % 16) 0
  | [], j, h => absurd h (by simp)
  | b :: l, 0, _ => ⟨rfl, rfl⟩
  | b :: l, j + 1, h => by
    have ih := hexL_at l j (by simpa using h)
    rw [show 2 * (j + 1) = 2 * j + 1 + 1 by omega, hexL, List.getD_cons_succ, List.getD_cons_succ, List.getD_cons_succ, List.getD_cons_succ, List.getD_cons_succ]
    exact ih
theorem hexL_ok : ∀ (l : List UInt8), ∀ c ∈ hexL l, 0 ≤ dv c
  | [], c, h => by cases h
  | b :: l, c, h => by
    have := b.toNat_lt
    rw [hexL, List.mem_cons, List.mem_cons] at h
    rcases h with rfl | rfl | h
    · rw [dv_dig _ (by omega)]; omega
    · rw [dv_dig _ (by omega)]; omega
    · exact hexL_ok l c h
theorem parse_hexN (id : List UInt8) (j : Nat) (hj : j < 20) (h : id.length = 20) : outN (hexL id) 40 j = (id.getD j 0).toNat := by
  obtain ⟨h1, h2⟩ := hexL_at id j (by omega)
  have := (id.getD j 0).toNat_lt
  unfold outN
  rw [if_pos (by omega), h1, h2, dv_dig _ (by omega), dv_dig _ (by omega), Int.toNat_natCast, Int.toNat_natCast]
  omega
theorem parse_hex (id : List UInt8) (h : id.length = 20) : outL (hexL id) 40 = id := by
  apply List.ext_getElem?
  intro j
  unfold outL
  by_cases hj : j < 20
  · rw [List.getElem?_map, List.getElem?_range hj, Option.map_some, parse_hexN id j hj h, UInt8.ofNat_toNat, List.getD_eq_getElem?_getD, List.getElem?_eq_getElem (by omega)]
    rfl
  · rw [List.getElem?_eq_none (by simp; omega), List.getElem?_eq_none (by omega)]
theorem outL_length (s : List UInt8) (i : Nat) : (outL s i).length = 20 := by unfold outL; simp
end Go.Proofs.YtlkaaoekbmegkaaGreatDoor
namespace Go.Proofs.YtlkaaoekbmegkaaGreatDoor
set_option linter.all false
open Go.RowKit
def okP (l : List UInt8) (i : Nat) : Prop := 0 ≤ dv (l.getD (2 * i) 0) ∧ 0 ≤ dv (l.getD (2 * i + 1) 0)
instance (l : List UInt8) (i : Nat) : Decidable (okP l i) := inferInstanceAs (Decidable (_ ∧ _))
end Go.Proofs.YtlkaaoekbmegkaaGreatDoor
namespace Go.Proofs.YtlkaaoekbmegkaaGreatDoor
set_option linter.all false
open Go.RowKit
end Go.Proofs.YtlkaaoekbmegkaaGreatDoor
namespace Go.Proofs.YtlkaaoekbmegkaaGreatDoor
set_option linter.all false
open Go.RowKit
theorem goodQ_iff (l : List UInt8) : goodQ l = true ↔ l.length = 40 ∧ ∀ c ∈ l, 0 ≤ dv c := by unfold goodQ; simp
theorem pOut_len (l : List UInt8) : (pOut l).length = 20 := by
  unfold pOut
  split
  · exact outL_length _ _
  · simp
theorem hex_good (l : List UInt8) (h : l.length = 20) : goodQ (hexL l) = true := (goodQ_iff _).2 ⟨by rw [hexL_length, h], hexL_ok l⟩
theorem pOut_hex (l : List UInt8) (h : l.length = 20) : pOut (hexL l) = l := by unfold pOut; rw [if_pos (hex_good l h), parse_hex l h]
end Go.Proofs.YtlkaaoekbmegkaaGreatDoor
namespace Go.Proofs.YtlkaaoekbmegkaaGreatDoor
set_option linter.all false
open Go.RowKit
open Go.Lib (index hasPrefix cut indexAny itoa)
def mustG (s : List UInt8) (b : Bool) (w : List UInt8) : List UInt8 × List UInt8 × Bool :=
  match lineG s w with
  | some (x, r) => (x, r, b)
  | none => ([], s, true)
theorem mustG_len (s : List UInt8) (b : Bool) (w : List UInt8) : (mustG s b w).1.length ≤ s.length ∧ (mustG s b w).2.1.length ≤ s.length := by
  unfold mustG
  cases h : lineG s w with
  | none => simp
  | some p => obtain ⟨x, r⟩ := p; have := lineG_len h; simp only; omega
def mustS : Spec := fun xs hp => match xs, hp with
  | [.ref 0 0 0, .str w], [.cells T [(1, .str s), (1, .bool b)]] => some ⟨.str (mustG s b w).1, [.cells T [(1, .str (mustG s b w).2.1), (1, .bool (mustG s b w).2.2)]], s.length ≤ 1000000000⟩
  | _, _ => none
theorem must_ok : FnOk Tryz.prog 53 mustS := by
  refine fn_slim2 Tryz.func53 s_cmust (Φ := phiL [(74, [], lineS)]) (phi_cons line_ok (by kernel_rfl) phi_nil) ?_
  intro xs hp r hs hp'
  unfold mustS at hs
  split at hs
  · injection hs with hs; subst hs
    rename_i w T s b
    have p1 : s.length ≤ 1000000000 := hp'
    refine ⟨len_le (by kernel_rfl), ?_⟩
    cases h : lineG s w with
    | none =>
      have e : mustG s b w = ([], s, true) := by unfold mustG; rw [h]
      rw [e]
      simp only [c_cmust, r_cmust, lineS, h, lineR, go_sem, Nat.reduceDiv, Nat.reduceMod, ↓reduceIte, Nat.reduceEqDiff, Nat.reduceBEq, Nat.reduceSub, Nat.reduceLT, Nat.reduceAdd, Nat.reduceLeDiff, reduceCtorEq, Int.reduceEq, Int.reduceNe, Int.reduceLT, Int.reduceLE, Int.reduceToNat]
      exact p1
    | some p =>
      obtain ⟨x, rr⟩ := p
      have e : mustG s b w = (x, rr, b) := by unfold mustG; rw [h]
      rw [e]
      simp only [c_cmust, r_cmust, lineS, h, lineR, go_sem, Nat.reduceDiv, Nat.reduceMod, ↓reduceIte, Nat.reduceEqDiff, Nat.reduceBEq, Nat.reduceSub, Nat.reduceLT, Nat.reduceAdd, Nat.reduceLeDiff, reduceCtorEq, Int.reduceEq, Int.reduceNe, Int.reduceLT, Int.reduceLE, Int.reduceToNat]
      exact p1
  · cases hs
def cidS : Spec := fun xs hp => match xs, hp with
  | [.ref 0 0 0, .str w], [.cells T [(1, .str s), (1, .bool b)]] => some ⟨.blob ((pOut (mustG s b w).1).map U), [.cells T [(1, .str (mustG s b w).2.1), (1, .bool ((mustG s b w).2.2 || !goodQ (mustG s b w).1))]], s.length ≤ 1000000000⟩
  | _, _ => none
set_option maxHeartbeats 2000000 in
theorem cid_ok : FnOk Tryz.prog 49 cidS := by
  refine fn_slim2 Tryz.func49 s_cid (Φ := phiL [(53, [], mustS), (72, [], parseS)]) (phi_cons must_ok (by kernel_rfl) (phi_cons parse_ok (by kernel_rfl) phi_nil)) ?_
  intro xs hp r hs hp'
  unfold cidS at hs
  split at hs
  · injection hs with hs; subst hs
    rename_i w T s b
    have p1 : s.length ≤ 1000000000 := hp'
    refine ⟨len_le (by kernel_rfl), ?_⟩
    have hl := mustG_len s b w
    have h20 := pOut_len (mustG s b w).1
    simp only [c_cid, mustS, parseS, go_sem, Nat.reduceDiv, Nat.reduceMod, ↓reduceIte, Nat.reduceEqDiff, Nat.reduceBEq, Nat.reduceSub, Nat.reduceLT, Nat.reduceAdd, Nat.reduceLeDiff, reduceCtorEq, Int.reduceEq, Int.reduceNe, Int.reduceLT, Int.reduceLE, Int.reduceToNat]
    generalize mustG s b w = M at *
    unfold pErr
    cases h1 : M.2.2 <;> cases h2 : goodQ M.1
    all_goals (
      simp only [k_cid_2, r_cid, mustS, parseS, h1, h2, h20, if_true, if_false, Bool.false_eq_true, go_sem, Nat.reduceDiv, Nat.reduceMod, ↓reduceIte, Nat.reduceEqDiff, Nat.reduceBEq, Nat.reduceSub, Nat.reduceLT, Nat.reduceAdd, Nat.reduceLeDiff, reduceCtorEq, Int.reduceEq, Int.reduceNe, Int.reduceLT, Int.reduceLE, Int.reduceToNat]
      repeat' apply And.intro
      all_goals first | omega | rfl | trivial | skip)
  · cases hs
noncomputable def cwhoS : Spec := fun xs hp => match xs, hp with
  | [.ref 0 0 0, .str w], [.cells T [(1, .str s), (1, .bool b)]] => some ⟨.agg (whoP (personV (mustG s b w).1)), [.cells T [(1, .str (mustG s b w).2.1), (1, .bool ((mustG s b w).2.2 || !personB (mustG s b w).1))]], s.length ≤ 1000000000⟩
  | _, _ => none
set_option maxHeartbeats 2000000 in
theorem cwho_ok : FnOk Tryz.prog 51 cwhoS := by
  refine fn_slim2 Tryz.func51 s_cwho (Φ := phiL [(53, [], mustS), (19, [], personS)]) (phi_cons must_ok (by kernel_rfl) (phi_cons person_ok (by kernel_rfl) phi_nil)) ?_
  intro xs hp r hs hp'
  unfold cwhoS at hs
  split at hs
  · injection hs with hs; subst hs
    rename_i w T s b
    have p1 : s.length ≤ 1000000000 := hp'
    refine ⟨len_le (by kernel_rfl), ?_⟩
    have hl := mustG_len s b w
    simp only [c_cwho, mustS, personS, personR, whoP, go_sem, Nat.reduceDiv, Nat.reduceMod, ↓reduceIte, Nat.reduceEqDiff, Nat.reduceBEq, Nat.reduceSub, Nat.reduceLT, Nat.reduceAdd, Nat.reduceLeDiff, reduceCtorEq, Int.reduceEq, Int.reduceNe, Int.reduceLT, Int.reduceLE, Int.reduceToNat]
    generalize mustG s b w = M at *
    generalize personV M.1 = V at *
    cases h1 : M.2.2 <;> cases h2 : personB M.1
    all_goals (
      simp only [k_cwho_2, r_cwho, h1, h2, if_true, if_false, Bool.false_eq_true, go_sem, Nat.reduceDiv, Nat.reduceMod, ↓reduceIte, Nat.reduceEqDiff, Nat.reduceBEq, Nat.reduceSub, Nat.reduceLT, Nat.reduceAdd, Nat.reduceLeDiff, reduceCtorEq, Int.reduceEq, Int.reduceNe, Int.reduceLT, Int.reduceLE, Int.reduceToNat]
      repeat' apply And.intro
      all_goals first | omega | rfl | trivial | skip)
  · cases hs
end Go.Proofs.YtlkaaoekbmegkaaGreatDoor
namespace Go.Proofs.YtlkaaoekbmegkaaGreatDoor
set_option linter.all false
open Go.RowKit
def b_cextras_0 : ACode := (.block 3 (.seq (.reg none [⟨(some 40), (.mv (.t 0)), none⟩, ⟨(some 41), (.nck (.t 40)), none⟩, ⟨(some 42), (.fa 0 (.t 41)), none⟩, ⟨(some 43), (.buildSl 9 1 [(.c (.str [32]))]), none⟩, ⟨(some 44), (.call 74 [(.t 42), (.t 43)]), none⟩, ⟨(some 39), (.mv (.t 44)), none⟩, ⟨(some 45), (.ext (.t 39) 0), none⟩, ⟨(some 46), (.ext (.t 39) 1), none⟩, ⟨(some 9), (.mv (.t 45)), none⟩, ⟨(some 10), (.mv (.t 46)), none⟩]) (.seq (.seq (.reg none [⟨(some 47), (.mv (.t 10)), none⟩, ⟨(some 48), (.bin .lss (.t 47) (.c (.int .i64 0))), none⟩]) (.cond (.t 48) (.exit 2) .skip)) (.reg none [⟨(some 49), (.fa 1 (.t 8)), none⟩, ⟨(some 50), (.ld (.one (.str [])) (.t 49)), none⟩, ⟨(some 51), (.mv (.t 9)), none⟩, ⟨(some 52), (.bin .add (.c (.str [10])) (.t 51)), none⟩, ⟨(some 53), (.bin .add (.t 50) (.t 52)), none⟩, ⟨(some 54), (.fa 1 (.t 8)), none⟩, ⟨none, (.st (.one (.str [])) (.t 54) (.t 53)), none⟩]))))
def t_cextras_0 : ACode := (.seq (.reg none [⟨(some 55), (.mv (.t 0)), none⟩, ⟨(some 56), (.mv (.t 0)), none⟩, ⟨(some 57), (.nck (.t 56)), none⟩, ⟨(some 58), (.fa 0 (.t 57)), none⟩, ⟨(some 59), (.fa 1 (.t 58)), none⟩, ⟨(some 60), (.ld (.one (.bool false)) (.t 59)), none⟩, ⟨(some 61), (.mv (.t 60)), none⟩, ⟨(some 62), (.mv (.t 7)), (some (61, false))⟩, ⟨(some 63), (.un .not (.t 62)), (some (61, false))⟩, ⟨(some 64), (.pick (.t 61) (.c (.bool true)) (.t 63)), none⟩, ⟨(some 65), (.mv (.t 64)), none⟩, ⟨(some 66), (.ld (.st 2) (.t 8)), (some (65, false))⟩, ⟨(some 67), (.call 32 [(.t 66)]), (some (65, false))⟩, ⟨(some 68), (.un .not (.t 67)), (some (65, false))⟩, ⟨(some 69), (.pick (.t 65) (.c (.bool true)) (.t 68)), none⟩, ⟨(some 70), (.nck (.t 55)), none⟩, ⟨(some 71), (.fa 0 (.t 70)), none⟩, ⟨(some 72), (.fa 1 (.t 71)), none⟩, ⟨none, (.st (.one (.bool false)) (.t 72) (.t 69)), none⟩]) (.reg none [⟨(some 73), (.mv (.t 3)), none⟩, ⟨(some 74), (.ld (.st 2) (.t 8)), none⟩, ⟨(some 75), (.buildSl 75 2 [(.t 74)]), none⟩, ⟨(some 76), (.app 75 2 32 (.t 73) (.t 75)), none⟩, ⟨(some 3), (.mv (.t 76)), none⟩]))
def b_cextras_1 : ACode := (.seq (.seq (.reg none [⟨(some 11), (.mv (.t 0)), none⟩, ⟨(some 12), (.nck (.t 11)), none⟩, ⟨(some 13), (.fa 0 (.t 12)), none⟩, ⟨(some 14), (.fa 1 (.t 13)), none⟩, ⟨(some 15), (.ld (.one (.bool false)) (.t 14)), none⟩, ⟨(some 16), (.un .not (.t 15)), none⟩, ⟨(some 17), (.mv (.t 16)), none⟩, ⟨(some 18), (.mv (.t 0)), (some (17, true))⟩, ⟨(some 19), (.nck (.t 18)), (some (17, true))⟩, ⟨(some 20), (.fa 0 (.t 19)), (some (17, true))⟩, ⟨(some 21), (.fa 0 (.t 20)), (some (17, true))⟩, ⟨(some 22), (.ld (.one (.str [])) (.t 21)), (some (17, true))⟩, ⟨(some 23), (.call 50 [(.t 22), (.c (.str [10]))]), (some (17, true))⟩, ⟨(some 24), (.un .not (.t 23)), (some (17, true))⟩, ⟨(some 25), (.pick (.t 17) (.t 24) (.c (.bool false))), none⟩]) (.cond (.t 25) .skip (.exit 0))) (.block 1 (.seq (.reg none [⟨(some 26), (.mv (.t 0)), none⟩, ⟨(some 27), (.nck (.t 26)), none⟩, ⟨(some 28), (.fa 0 (.t 27)), none⟩, ⟨(some 29), (.call 53 [(.t 28), (.c (.str []))]), none⟩, ⟨(some 4), (.mv (.t 29)), none⟩]) (.seq (.reg none [⟨(some 31), (.mv (.t 4)), none⟩, ⟨(some 32), (.call 44 [(.t 31), (.c (.str [32]))]), none⟩, ⟨(some 30), (.mv (.t 32)), none⟩, ⟨(some 33), (.ext (.t 30) 0), none⟩, ⟨(some 34), (.ext (.t 30) 1), none⟩, ⟨(some 35), (.ext (.t 30) 2), none⟩, ⟨(some 5), (.mv (.t 33)), none⟩, ⟨(some 6), (.mv (.t 34)), none⟩, ⟨(some 7), (.mv (.t 35)), none⟩]) (.seq (.reg none [⟨(some 36), (.mv (.t 5)), none⟩, ⟨(some 37), (.mv (.t 6)), none⟩, ⟨(some 38), (.build [(1, (.str [])), (1, (.str []))] [(0, (1, (.t 36))), (1, (1, (.t 37)))]), none⟩, ⟨(some 8), (.new 75 [(1, (.str [])), (1, (.str []))]), none⟩, ⟨none, (.st (.st 2) (.t 8) (.t 38)), none⟩]) (.seq (.block 2 (.loop b_cextras_0)) t_cextras_0))))))
def t_cextras_1 : ACode := (.seq (.reg none [⟨(some 77), (.mv (.t 3)), none⟩, ⟨(some 2), (.mv (.t 77)), none⟩]) .ret)
def c_cextras : ACode := (.seq (.reg none [⟨(some 2), (.mv (.c (.con (.slice none 0 0)))), none⟩]) (.seq (.reg none [⟨(some 3), (.mv (.c (.con (.slice none 0 0)))), none⟩]) (.seq (.block 0 (.loop b_cextras_1)) t_cextras_1)))
def r_cextras : List ARes := [(.t 2)]
theorem s_cextras : slimF Tryz.prog Tryz.f52 = some (c_cextras, r_cextras) := by kernel_rfl
def b_cpar_0 : ACode := (.seq (.seq (.reg none [⟨(some 16), (.mv (.t 4)), none⟩, ⟨(some 17), (.nck (.t 16)), none⟩, ⟨(some 18), (.fa 0 (.t 17)), none⟩, ⟨(some 19), (.fa 1 (.t 18)), none⟩, ⟨(some 20), (.ld (.one (.bool false)) (.t 19)), none⟩, ⟨(some 21), (.un .not (.t 20)), none⟩, ⟨(some 22), (.mv (.t 21)), none⟩, ⟨(some 23), (.mv (.t 4)), (some (22, true))⟩, ⟨(some 24), (.nck (.t 23)), (some (22, true))⟩, ⟨(some 25), (.fa 0 (.t 24)), (some (22, true))⟩, ⟨(some 26), (.fa 0 (.t 25)), (some (22, true))⟩, ⟨(some 27), (.ld (.one (.str [])) (.t 26)), (some (22, true))⟩, ⟨(some 28), (.call 50 [(.t 27), (.c (.str [112, 97, 114, 101, 110, 116, 32]))]), (some (22, true))⟩, ⟨(some 29), (.pick (.t 22) (.t 28) (.c (.bool false))), none⟩]) (.cond (.t 29) .skip (.exit 0))) (.block 1 (.seq (.reg none [⟨(some 30), (.mv (.t 4)), none⟩, ⟨(some 31), (.call 49 [(.t 30), (.c (.str [112, 97, 114, 101, 110, 116, 32]))]), none⟩, ⟨(some 6), (.new 29 [(20, (.blob (List.replicate 20 (.int .u8 0))))]), none⟩, ⟨none, (.st (.arr 20) (.t 6) (.t 31)), none⟩]) (.reg none [⟨(some 32), (.fa 20 (.t 5)), none⟩, ⟨(some 33), (.ld (.one (.con (.slice none 0 0))) (.t 32)), none⟩, ⟨(some 34), (.ld (.arr 20) (.t 6)), none⟩, ⟨(some 35), (.buildSl 29 20 [(.t 34)]), none⟩, ⟨(some 36), (.app 29 20 20 (.t 33) (.t 35)), none⟩, ⟨(some 37), (.fa 20 (.t 5)), none⟩, ⟨none, (.st (.one (.con (.slice none 0 0))) (.t 37) (.t 36)), none⟩]))))
def t_cpar_0 : ACode := (.seq (.reg none [⟨(some 38), (.mv (.t 4)), none⟩, ⟨(some 39), (.call 51 [(.t 38), (.c (.str [97, 117, 116, 104, 111, 114, 32]))]), none⟩, ⟨(some 40), (.fa 21 (.t 5)), none⟩, ⟨none, (.st (.st 4) (.t 40) (.t 39)), none⟩]) (.seq (.reg none [⟨(some 41), (.mv (.t 4)), none⟩, ⟨(some 42), (.call 51 [(.t 41), (.c (.str [99, 111, 109, 109, 105, 116, 116, 101, 114, 32]))]), none⟩, ⟨(some 43), (.fa 25 (.t 5)), none⟩, ⟨none, (.st (.st 4) (.t 43) (.t 42)), none⟩]) (.seq (.reg none [⟨(some 44), (.mv (.t 4)), none⟩, ⟨(some 45), (.call 52 [(.t 44)]), none⟩, ⟨(some 46), (.fa 29 (.t 5)), none⟩, ⟨none, (.st (.one (.con (.slice none 0 0))) (.t 46) (.t 45)), none⟩]) (.seq (.reg none [⟨(some 47), (.mv (.t 4)), none⟩, ⟨(some 48), (.nck (.t 47)), none⟩, ⟨(some 49), (.fa 0 (.t 48)), none⟩, ⟨(some 50), (.call 53 [(.t 49), (.c (.str []))]), none⟩, ⟨(some 7), (.mv (.t 50)), none⟩]) (.seq (.reg none [⟨(some 51), (.mv (.t 4)), none⟩, ⟨(some 52), (.nck (.t 51)), none⟩, ⟨(some 53), (.fa 0 (.t 52)), none⟩, ⟨(some 54), (.fa 0 (.t 53)), none⟩, ⟨(some 55), (.ld (.one (.str [])) (.t 54)), none⟩, ⟨(some 56), (.fa 30 (.t 5)), none⟩, ⟨none, (.st (.one (.str [])) (.t 56) (.t 55)), none⟩]) (.seq (.seq (.reg none [⟨(some 57), (.mv (.t 4)), none⟩, ⟨(some 58), (.nck (.t 57)), none⟩, ⟨(some 59), (.fa 0 (.t 58)), none⟩, ⟨(some 60), (.fa 1 (.t 59)), none⟩, ⟨(some 61), (.ld (.one (.bool false)) (.t 60)), none⟩, ⟨(some 62), (.mv (.t 61)), none⟩, ⟨(some 63), (.mv (.t 7)), (some (62, false))⟩, ⟨(some 64), (.bin .neq (.t 63) (.c (.str []))), (some (62, false))⟩, ⟨(some 65), (.pick (.t 62) (.c (.bool true)) (.t 64)), none⟩]) (.cond (.t 65) (.seq (.reg none [⟨(some 66), (.build [(20, (.blob (List.replicate 20 (.int .u8 0)))), (1, (.con (.slice none 0 0))), (1, (.str [])), (1, (.str [])), (1, (.int .i64 0)), (1, (.str [])), (1, (.str [])), (1, (.str [])), (1, (.int .i64 0)), (1, (.str [])), (1, (.con (.slice none 0 0))), (1, (.str []))] []), none⟩, ⟨none, (.st (.st 31) (.t 2) (.t 66)), none⟩, ⟨(some 3), (.mv (.c (.int .i64 4))), none⟩]) .ret) .skip)) (.seq (.reg none [⟨(some 67), (.ld (.st 31) (.t 5)), none⟩, ⟨none, (.st (.st 31) (.t 2) (.t 67)), none⟩, ⟨(some 3), (.mv (.c (.int .i64 0))), none⟩]) .ret)))))))
def c_cpar : ACode := (.seq (.reg none [⟨(some 2), (.new 34 [(20, (.blob (List.replicate 20 (.int .u8 0)))), (1, (.con (.slice none 0 0))), (1, (.str [])), (1, (.str [])), (1, (.int .i64 0)), (1, (.str [])), (1, (.str [])), (1, (.str [])), (1, (.int .i64 0)), (1, (.str [])), (1, (.con (.slice none 0 0))), (1, (.str []))]), none⟩, ⟨(some 3), (.mv (.c (.int .i64 0))), none⟩]) (.seq (.reg none [⟨(some 8), (.mv (.t 0)), none⟩, ⟨(some 9), (.toStr (.t 8)), none⟩, ⟨(some 10), (.build [(1, (.str [])), (1, (.bool false))] [(0, (1, (.t 9)))]), none⟩, ⟨(some 11), (.build [(1, (.str [])), (1, (.bool false))] [(0, (2, (.t 10)))]), none⟩, ⟨(some 12), (.box 107 2 (.t 11)), none⟩, ⟨(some 4), (.mv (.t 12)), none⟩]) (.seq (.reg none [⟨(some 13), (.mv (.t 4)), none⟩, ⟨(some 14), (.call 49 [(.t 13), (.c (.str [116, 114, 101, 101, 32]))]), none⟩, ⟨(some 15), (.build [(20, (.blob (List.replicate 20 (.int .u8 0)))), (1, (.con (.slice none 0 0))), (1, (.str [])), (1, (.str [])), (1, (.int .i64 0)), (1, (.str [])), (1, (.str [])), (1, (.str [])), (1, (.int .i64 0)), (1, (.str [])), (1, (.con (.slice none 0 0))), (1, (.str []))] [(0, (20, (.t 14)))]), none⟩, ⟨(some 5), (.new 34 [(20, (.blob (List.replicate 20 (.int .u8 0)))), (1, (.con (.slice none 0 0))), (1, (.str [])), (1, (.str [])), (1, (.int .i64 0)), (1, (.str [])), (1, (.str [])), (1, (.str [])), (1, (.int .i64 0)), (1, (.str [])), (1, (.con (.slice none 0 0))), (1, (.str []))]), none⟩, ⟨none, (.st (.st 31) (.t 5) (.t 15)), none⟩]) (.seq (.block 0 (.loop b_cpar_0)) t_cpar_0))))
def r_cpar : List ARes := [(.c 2 (.st 31)), (.t 3)]
theorem s_cpar : slimF Tryz.prog Tryz.f21 = some (c_cpar, r_cpar) := by kernel_rfl
end Go.Proofs.YtlkaaoekbmegkaaGreatDoor
namespace Go.Proofs.YtlkaaoekbmegkaaGreatDoor
set_option linter.all false
open Go.RowKit
open Go.Lib (index hasPrefix cut indexAny itoa)
def contG : Nat → List UInt8 → List UInt8 → List UInt8 × List UInt8
  | 0, s, v => (s, v)
  | f + 1, s, v => match lineG s [32] with
    | some (m, r) => contG f r (v ++ ([10] ++ m))
    | none => (s, v)
theorem contG_len : ∀ (f : Nat) (s v : List UInt8), (contG f s v).1.length ≤ s.length ∧ (contG f s v).2.length ≤ v.length + f * (s.length + 1) := by
  intro f
  induction f with
  | zero => intro s v; simp [contG]
  | succ f ih =>
    intro s v
    unfold contG
    cases h : lineG s [32] with
    | none => simp only; exact ⟨Nat.le_refl _, by omega⟩
    | some p =>
      obtain ⟨m, r⟩ := p
      have := lineG_len h
      obtain ⟨i1, i2⟩ := ih r (v ++ ([10] ++ m))
      simp only [List.length_append, List.length_cons, List.length_nil] at i1 i2 ⊢
      refine ⟨by omega, ?_⟩
      have hm : f * (r.length + 1) ≤ f * (s.length + 1) := Nat.mul_le_mul_left _ (by omega)
      rw [Nat.add_mul]; omega
theorem contG_s : ∀ (f : Nat) (s v : List UInt8), (contG f s v).1.length + (contG f s v).2.length ≤ s.length + v.length := by
  intro f
  induction f with
  | zero => intro s v; simp [contG]
  | succ f ih =>
    intro s v
    unfold contG
    cases h : lineG s [32] with
    | none => simp
    | some p =>
      obtain ⟨m, r⟩ := p
      have hc : m.length + 1 + 1 + r.length ≤ s.length := by
        unfold lineG at h
        split at h
        · rename_i hc
          injection h with h; injection h with h1 h2; subst h1 h2
          have := congrArg List.length (cut_t hc.1)
          simp only [List.length_append, List.length_cons, List.length_nil] at this
          have h3 : [(32 : UInt8)].isPrefixOf (cut s [10]).1 = true := hc.2
          rw [List.isPrefixOf_iff_prefix] at h3
          have h4 := h3.length_le
          simp only [List.length_drop, List.length_cons, List.length_nil] at h4 ⊢
          omega
        · cases h
      have := ih r (v ++ ([10] ++ m))
      simp only [List.length_append, List.length_cons, List.length_nil] at this ⊢
      omega
def extra1 (s : List UInt8) : List UInt8 × List UInt8 × Bool × ExL :=
  let m := mustG s false []
  let c := cut m.1 [32]
  let z := contG (m.2.1.length + 1) m.2.1 c.2.1
  (z.1, z.2, m.2.2 || !c.2.2 || !extraB c.1, (c.1, z.2))
def extrasG : Nat → List UInt8 → Bool → List ExL → List UInt8 × Bool × List ExL
  | 0, s, b, acc => (s, b, acc)
  | f + 1, s, b, acc => if b = false ∧ hasPrefix s [10] = false then extrasG f (extra1 s).1 (extra1 s).2.2.1 (acc ++ [(extra1 s).2.2.2]) else (s, b, acc)
theorem mustG_dec (s w : List UInt8) (b : Bool) : (mustG s b w).2.2 = true ∨ (mustG s b w).2.1.length < s.length := by
  unfold mustG
  cases h : lineG s w with
  | none => exact .inl rfl
  | some p => obtain ⟨x, r⟩ := p; exact .inr (lineG_len h).2
def wgt (s : List UInt8) (b : Bool) : Nat := s.length + (if b = true then 0 else 1)
theorem extra1_dec (s : List UInt8) : wgt (extra1 s).1 (extra1 s).2.2.1 < wgt s false := by
  unfold wgt extra1
  have h1 := (contG_len ((mustG s false []).2.1.length + 1) (mustG s false []).2.1 (cut (mustG s false []).1 [32]).2.1).1
  have h2 := (mustG_len s false []).2
  rcases mustG_dec s [] false with h | h
  · simp only [h, Bool.true_or, if_true]
    simp; omega
  · have hx : ∀ b : Bool, (if b = true then 0 else 1 : Nat) ≤ 1 := by intro b; split <;> omega
    have h3 := hx ((mustG s false []).2.2 || !(cut (mustG s false []).1 [32]).2.2 || !extraB (cut (mustG s false []).1 [32]).1)
    show _ < s.length + 1
    simp only
    omega
def cextrasS : Spec := fun xs hp => match xs, hp with
  | [.ref 0 0 0], [.cells T [(1, .str s), (1, .bool b)]] =>
    some ⟨.own 1 (extrasG (wgt s b + 1) s b []).2.2.length, [.cells T [(1, .str (extrasG (wgt s b + 1) s b []).1), (1, .bool (extrasG (wgt s b + 1) s b []).2.1)], .row 75 2 (extrasG (wgt s b + 1) s b []).2.2.length ((extrasG (wgt s b + 1) s b []).2.2.map exV)], s.length ≤ 1000000⟩
  | _, _ => none
def phiExt : Phi := phiL [(53, [], mustS), (74, [], lineS), (50, [], hasPreS), (44, [], cutS), (32, [], cextraS)]
theorem phiExt_ok : PhiOk Tryz.prog phiExt := phi_cons must_ok (by kernel_rfl) (phi_cons line_ok (by kernel_rfl) (phi_cons hasPre_ok (by kernel_rfl) (phi_cons cut_ok (by kernel_rfl) (phi_cons cextra_ok (by kernel_rfl) phi_nil))))
theorem phiExt_1 : phiExt 53 = some ([], mustS) := rfl
theorem phiExt_2 : phiExt 74 = some ([], lineS) := rfl
theorem phiExt_3 : phiExt 50 = some ([], hasPreS) := rfl
theorem phiExt_4 : phiExt 44 = some ([], cutS) := rfl
theorem phiExt_5 : phiExt 32 = some ([], cextraS) := rfl
set_option maxHeartbeats 4000000 in
theorem cextras_ok : FnOk Tryz.prog 52 cextrasS := by
  refine fn_slim2 Tryz.func52 s_cextras phiExt_ok ?_
  intro xs hp r hs hp'
  unfold cextrasS at hs
  split at hs
  · injection hs with hs; subst hs
    rename_i T s0 b0
    have p1 : s0.length ≤ 1000000 := hp'
    refine ⟨len_le (by kernel_rfl), ?_⟩
    generalize hE : extrasG (wgt s0 b0 + 1) s0 b0 [] = E at *
    simp only [c_cextras, go_sem, Nat.reduceDiv, Nat.reduceMod, ↓reduceIte, Nat.reduceEqDiff, Nat.reduceBEq, Nat.reduceSub, Nat.reduceLT, Nat.reduceAdd, Nat.reduceLeDiff, reduceCtorEq, Int.reduceEq, Int.reduceNe, Int.reduceLT, Int.reduceLE, Int.reduceToNat]
    refine loop2P [(3, 75, 2)] [0, 3] [0, 1] (fun q : Nat × List UInt8 × Bool × List ExL => ⟨[(0, .ref 0 0 0), (3, .own 1 q.2.2.2.length)], [.cells T [(1, .str q.2.1), (1, .bool q.2.2.1)], .row 75 2 q.2.2.2.length (q.2.2.2.map exV)]⟩)
      (fun q => wgt q.2.1 q.2.2.1 < q.1 ∧ extrasG q.1 q.2.1 q.2.2.1 q.2.2.2 = E ∧ q.2.1.length ≤ 1000000 ∧ q.1 + q.2.2.2.length ≤ 2000000) (fun q => q.1) (wgt s0 b0 + 1, s0, b0, []) rfl ⟨Nat.lt_succ_self _, hE, p1, by simp only [List.length_nil, wgt]; split <;> omega⟩ ⟨rfl, by rfl⟩ (fun q hq R hR => ?_)
    obtain ⟨f, s, b, acc⟩ := q
    simp only at hq
    obtain ⟨h1, h2, h3, h4⟩ := hq
    simp only at hR ⊢
    obtain ⟨f, rfl⟩ : ∃ g, f = g + 1 := ⟨f - 1, by omega⟩
    cases hb : b with
    | true =>
      subst hb
      have e : E = (s, true, acc) := by rw [← h2]; unfold extrasG; rw [if_neg (by simp)]
      rw [e]
      simp only [b_cextras_1, t_cextras_1, r_cextras, phiExt_3, hasPreS, go_sem, Nat.reduceDiv, Nat.reduceMod, ↓reduceIte, Nat.reduceEqDiff, Nat.reduceBEq, Nat.reduceSub, Nat.reduceLT, Nat.reduceAdd, Nat.reduceLeDiff, reduceCtorEq, Int.reduceEq, Int.reduceNe, Int.reduceLT, Int.reduceLE, Int.reduceToNat]
    | false =>
      subst hb
      cases hn : hasPrefix s [10] with
      | true =>
        have e : E = (s, false, acc) := by rw [← h2]; unfold extrasG; rw [if_neg (by rw [hn]; simp)]
        rw [e]
        simp only [b_cextras_1, t_cextras_1, r_cextras, phiExt_3, hasPreS, hn, go_sem, Nat.reduceDiv, Nat.reduceMod, ↓reduceIte, Nat.reduceEqDiff, Nat.reduceBEq, Nat.reduceSub, Nat.reduceLT, Nat.reduceAdd, Nat.reduceLeDiff, reduceCtorEq, Int.reduceEq, Int.reduceNe, Int.reduceLT, Int.reduceLE, Int.reduceToNat]
      | false =>
        have e : extrasG f (extra1 s).1 (extra1 s).2.2.1 (acc ++ [(extra1 s).2.2.2]) = E := by rw [← h2]; conv => rhs; unfold extrasG; rw [if_pos ⟨rfl, hn⟩]
        have hdec := extra1_dec s
        have hw0 : wgt s false = s.length + 1 := rfl
        have hm := mustG_len s false []
        have hc1 := cutl1 (mustG s false []).1 [32]
        have hc2 := cutl2 (mustG s false []).1 [32]
        simp only [b_cextras_1, phiExt_1, phiExt_3, phiExt_4, mustS, hasPreS, cutS, hn, go_sem, Nat.reduceDiv, Nat.reduceMod, ↓reduceIte, Nat.reduceEqDiff, Nat.reduceBEq, Nat.reduceSub, Nat.reduceLT, Nat.reduceAdd, Nat.reduceLeDiff, reduceCtorEq, Int.reduceEq, Int.reduceNe, Int.reduceLT, Int.reduceLE, Int.reduceToNat]
        have hd0 : (mustG s false []).1.length + (mustG s false []).2.1.length ≤ s.length := by
          unfold mustG
          cases h : lineG s [] with
          | none => simp
          | some p =>
            obtain ⟨x, rr⟩ := p
            unfold lineG at h
            split at h
            · rename_i hcc
              injection h with h; injection h with h5 h6; subst h5 h6
              have := congrArg List.length (cut_t hcc.1)
              simp only [List.length_append, List.length_cons, List.length_nil] at this
              simp only [List.length_drop]; omega
            · cases h
        refine ⟨by omega, by omega, ?_⟩
        unfold extra1 at e hdec
        simp only at e hdec
        generalize mustG s false [] = M at *
        generalize cut M.1 [32] = C at *
        generalize hZ : contG (M.2.1.length + 1) M.2.1 C.2.1 = Z at *
        refine loop2P [] [0, 3, 7, 8] [0, 1, 2] (fun q : Nat × List UInt8 × List UInt8 => ⟨[(0, .ref 0 0 0), (3, .own 1 acc.length), (7, .bool C.2.2), (8, .ref 2 0 0)], [.cells T [(1, .str q.2.1), (1, .bool M.2.2)], .row 75 2 acc.length (acc.map exV), .cells 75 [(1, .str C.1), (1, .str q.2.2)]]⟩)
          (fun q => q.2.1.length < q.1 ∧ contG q.1 q.2.1 q.2.2 = Z ∧ q.2.1.length + q.2.2.length ≤ 2000000) (fun q => q.1) (M.2.1.length + 1, M.2.1, C.2.1) rfl ⟨Nat.lt_succ_self _, hZ, by simp only; omega⟩ ⟨rfl, by rfl⟩ (fun q hq R2 hR2 => ?_)
        obtain ⟨g, s', v⟩ := q
        simp only at hq
        obtain ⟨i1, i2, i3⟩ := hq
        simp only at hR2 ⊢
        obtain ⟨g, rfl⟩ : ∃ k, g = k + 1 := ⟨g - 1, by omega⟩
        unfold contG at i2
        cases hl : lineG s' [32] with
        | some p =>
          obtain ⟨m, rr⟩ := p
          rw [hl] at i2
          simp only at i2
          have hll := lineG_len hl
          have hcc : m.length + 1 + 1 + rr.length ≤ s'.length := by
            have hx := contG_s 1 s' []
            unfold contG at hx
            rw [hl] at hx
            have hy := hl
            unfold lineG at hy
            split at hy
            · rename_i hcc
              injection hy with hy; injection hy with h5 h6; subst h5 h6
              have := congrArg List.length (cut_t hcc.1)
              simp only [List.length_append, List.length_cons, List.length_nil] at this
              have h3 : [(32 : UInt8)].isPrefixOf (cut s' [10]).1 = true := hcc.2
              rw [List.isPrefixOf_iff_prefix] at h3
              have h4 := h3.length_le
              simp only [List.length_drop, List.length_cons, List.length_nil] at h4 ⊢
              omega
            · cases hy
          simp only [b_cextras_0, phiExt_2, lineS, hl, lineR, go_sem, Nat.reduceDiv, Nat.reduceMod, ↓reduceIte, Nat.reduceEqDiff, Nat.reduceBEq, Nat.reduceSub, Nat.reduceLT, Nat.reduceAdd, Nat.reduceLeDiff, reduceCtorEq, Int.reduceEq, Int.reduceNe, Int.reduceLT, Int.reduceLE, Int.reduceToNat]
          refine ⟨by omega, by (first | omega | (simp only [lenOk, bytesOk, inI, IntKind.bits, List.length_append, Bs_len, List.length_cons, List.length_nil, List.length_map, List.length_take, List.length_drop, List.length_replicate]; omega)), by (first | omega | (simp only [lenOk, bytesOk, inI, IntKind.bits, List.length_append, Bs_len, List.length_cons, List.length_nil, List.length_map, List.length_take, List.length_drop, List.length_replicate]; omega)), hR2 _ (g, rr, v ++ ([10] ++ m)) ⟨by simp only; omega, i2, by simp only [List.length_append, List.length_cons, List.length_nil]; omega⟩ (by simp only; omega) rfl⟩
        | none =>
          rw [hl] at i2
          simp only at i2
          subst i2
          simp only at e hdec
          have hlen : (acc.map exV ++ [AV.agg [(1, AV.str C.1), (1, AV.str v)]]).length = acc.length + 1 := by simp
          simp only [b_cextras_0, phiExt_2, lineS, hl, lineR, go_sem, Nat.reduceDiv, Nat.reduceMod, ↓reduceIte, Nat.reduceEqDiff, Nat.reduceBEq, Nat.reduceSub, Nat.reduceLT, Nat.reduceAdd, Nat.reduceLeDiff, reduceCtorEq, Int.reduceEq, Int.reduceNe, Int.reduceLT, Int.reduceLE, Int.reduceToNat]
          refine ⟨by omega, ?_⟩
          have fin : ∀ (bb : Bool) s'', bb = (M.2.2 || !C.2.2 || !extraB C.1) → kp [0, 3] [0, 1].length (toS s'') = some ⟨[(0, .ref 0 0 0), (3, .own 1 (acc.length + 1))], [.cells T [(1, .str s'), (1, .bool bb)], .row 75 2 (acc.length + 1) (acc.map exV ++ [.agg [(1, .str C.1), (1, .str v)]])]⟩ → R s'' := by
            intro bb s'' hbb hk
            refine hR s'' (f, s', bb, acc ++ [(C.1, v)]) ⟨?_, ?_, ?_, ?_⟩ ?_ ?_
            · simp only; rw [hbb]; rw [hw0] at h1 hdec; omega
            · simp only; rw [hbb]; exact e
            · simp only; rw [hw0] at hdec; unfold wgt at hdec; omega
            · simp only [List.length_append, List.length_cons, List.length_nil]; omega
            · simp only; omega
            · rw [hk]
              simp only [List.length_append, List.length_cons, List.length_nil, List.map_append, List.map_cons, List.map_nil, exV]
          cases h1 : M.2.2 with
          | true =>
            rw [h1] at fin
            simp only [t_cextras_0, h1, go_sem, Nat.reduceDiv, Nat.reduceMod, ↓reduceIte, Nat.reduceEqDiff, Nat.reduceBEq, Nat.reduceSub, Nat.reduceLT, Nat.reduceAdd, Nat.reduceLeDiff, reduceCtorEq, Int.reduceEq, Int.reduceNe, Int.reduceLT, Int.reduceLE, Int.reduceToNat]
            exact ⟨⟨by rw [hlen]; (first | omega | (simp only [lenOk, bytesOk, inI, IntKind.bits, List.length_append, Bs_len, List.length_cons, List.length_nil, List.length_map, List.length_take, List.length_drop, List.length_replicate]; omega)), by rw [hlen]; (first | omega | (simp only [lenOk, bytesOk, inI, IntKind.bits, List.length_append, Bs_len, List.length_cons, List.length_nil, List.length_map, List.length_take, List.length_drop, List.length_replicate]; omega))⟩, fin true _ rfl rfl⟩
          | false =>
            cases h2 : C.2.2 with
            | false =>
              rw [h1, h2] at fin
              simp only [t_cextras_0, h1, h2, go_sem, Nat.reduceDiv, Nat.reduceMod, ↓reduceIte, Nat.reduceEqDiff, Nat.reduceBEq, Nat.reduceSub, Nat.reduceLT, Nat.reduceAdd, Nat.reduceLeDiff, reduceCtorEq, Int.reduceEq, Int.reduceNe, Int.reduceLT, Int.reduceLE, Int.reduceToNat]
              exact ⟨⟨by rw [hlen]; (first | omega | (simp only [lenOk, bytesOk, inI, IntKind.bits, List.length_append, Bs_len, List.length_cons, List.length_nil, List.length_map, List.length_take, List.length_drop, List.length_replicate]; omega)), by rw [hlen]; (first | omega | (simp only [lenOk, bytesOk, inI, IntKind.bits, List.length_append, Bs_len, List.length_cons, List.length_nil, List.length_map, List.length_take, List.length_drop, List.length_replicate]; omega))⟩, fin true _ rfl rfl⟩
            | true =>
              rw [h1, h2] at fin
              simp only [t_cextras_0, phiExt_5, cextraS, h1, h2, go_sem, Nat.reduceDiv, Nat.reduceMod, ↓reduceIte, Nat.reduceEqDiff, Nat.reduceBEq, Nat.reduceSub, Nat.reduceLT, Nat.reduceAdd, Nat.reduceLeDiff, reduceCtorEq, Int.reduceEq, Int.reduceNe, Int.reduceLT, Int.reduceLE, Int.reduceToNat]
              exact ⟨by omega, ⟨by rw [hlen]; (first | omega | (simp only [lenOk, bytesOk, inI, IntKind.bits, List.length_append, Bs_len, List.length_cons, List.length_nil, List.length_map, List.length_take, List.length_drop, List.length_replicate]; omega)), by rw [hlen]; (first | omega | (simp only [lenOk, bytesOk, inI, IntKind.bits, List.length_append, Bs_len, List.length_cons, List.length_nil, List.length_map, List.length_take, List.length_drop, List.length_replicate]; omega))⟩, fin _ _ rfl rfl⟩
  · cases hs
end Go.Proofs.YtlkaaoekbmegkaaGreatDoor
