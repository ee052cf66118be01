import Derived.Test.YtfabdnpeohpgnaaGreatDoorChecked
import Derived.Test.YtfabdnpeohpgnaaGreatDoorQAMS
import Derived.Test.YtfabdnpeohpgnaaGreatDoorQFNRight
import Derived.Lib.IndexLaws
namespace Go.Proofs.YtfabdnpeohpgnaaGreatDoor
set_option linter.all false
open Go.RowKit
def c_digit : ACode := (.seq (.reg none [⟨(some 2), (.mv (.c (.int .u8 0))), none⟩]) (.seq (.seq (.reg none [⟨(some 3), (.mv (.t 0)), none⟩, ⟨(some 4), (.bin .lss (.t 3) (.c (.int .i64 10))), none⟩]) (.cond (.t 4) (.seq (.reg none [⟨(some 5), (.mv (.t 0)), none⟩, ⟨(some 6), (.bin .add (.c (.int .i64 48)) (.t 5)), none⟩, ⟨(some 7), (.toInt .u8 (.t 6)), none⟩, ⟨(some 2), (.mv (.t 7)), none⟩]) .ret) .skip)) (.seq (.reg none [⟨(some 8), (.mv (.t 0)), none⟩, ⟨(some 9), (.bin .add (.c (.int .i64 87)) (.t 8)), none⟩, ⟨(some 10), (.toInt .u8 (.t 9)), none⟩, ⟨(some 2), (.mv (.t 10)), none⟩]) .ret)))
def r_digit : List ARes := [(.t 2)]
theorem s_digit : slimF Tryz.prog Tryz.f42 = some (c_digit, r_digit) := by kernel_rfl
def digN (n : Int) : Int := if n < 10 then 48 + n else 87 + n
def digitS : Spec := fun xs hp => match xs, hp with
  | [.int .i64 n], [] => some ⟨.int .u8 (digN n), [], 0 ≤ n ∧ n < 16⟩
  | _, _ => none
theorem digit_ok : FnOk Tryz.prog 42 digitS := by
  refine fn_slim Tryz.func42 s_digit (Φ := phiL []) phi_nil ?_
  intro xs hp r hs hp'
  unfold digitS at hs
  split at hs
  · injection hs with hs; subst hs
    rename_i n
    refine ⟨len_le (by kernel_rfl), ?_⟩
    obtain ⟨p1, p2⟩ := hp'
    simp only [c_digit, r_digit, awp_scope, noG_n, noG_r, noG_x, awp_skip, awp_reg, awp_draw, awp_seq, awp_cond, awp_block, awp_loop, awp_exit, awp_ret, arun_nil, arun_op, arun_gt, arun_gf, arunD_nil, arunD_op, arunD_gt, arunD_gf, aq_some, isB_t, isB_u, isB_f, isB_g, isB_p, isU_t, isU_b, ifB_t, ifB_f, thenQ_n, thenQ_x, thenQ_r, inQ_n, inQ_r, inQ_x, retQ_n, retQ_r, exD, AOp.isH, keepN, preB, avalP, pureR, astep, stV, stN, stE, stC, aval, anew, aElems, frzS, frzH, aeff, slots, aret, ares, aress, AV.isTup, eqFs, aEqS, ofC_i, ofC_b, ofC_s, ofC_U, getD_mapU, getD_Bs, Bs_len, Int.toNat_natCast, opd, pt, tk, subp, rdP, Rt.size, Rt.isAgg, Rt.zv, aBin, aInt, aStr, arI, aUn, aToInt, aToStr, aIdxS, zv, aIdxA, aIa, aIaA, aFa, aLd, aFld, pparts, aLo, aHi, cutL, aSlS, aSl, aExt, aNck, aNilc, AV.isStr, aLen, AV.one, AV.multi, pureB, szOk, psz, drp, spl, aEqB, aEqA, aMm, aMkfn, aMkif, aBuild, toV, aBuildA, wrP, unparts, view, nilS, St.ev, lk, St.put, St.pin, St.pinV, acall0, acall1, acall2, acall3, bor, bor0, bor1, phiL_nil, phiL_at, tau, lentO, okIds, flatC, flatB, flatOs, flatO, flatPs, place, setAll_nil, setAll_cons, nodupB, renObj, closeIds, addNew, idsOf, idsObj, posOf, lenOk_0, lenOk_1, lenOk_2, lenOk_3, lenOk_4, lenOk_8, ↓reduceIte, Option.isSome_none, Option.isSome_some, Bool.or_true, Bool.true_or,  Nat.reduceEqDiff, Nat.reduceBEq, Nat.reduceSub, Nat.reduceLT, beq_self_eq_true, List.map, List.set, List.map_cons, List.map_nil, List.flatMap_cons, List.flatMap_nil, List.flatten_cons, List.flatten_nil, true_and, and_true, List.length_cons, List.length_nil, Nat.reduceAdd, Nat.reduceLeDiff, List.nil_append, List.cons_append, List.append_nil, Option.map, mapO, ren, kp, kpI, ent, nilG, Option.bind, List.range, List.range.loop, List.getElem?_cons_zero, List.getElem?_cons_succ, List.getElem?_nil, List.getD_cons_zero, List.getD_cons_succ, List.drop_zero, List.drop_succ_cons, List.drop_nil, List.take_zero, List.take_succ_cons, List.all_cons, List.all_nil, List.isEmpty_nil, List.isEmpty_cons, Bool.and_true, Bool.true_and, Bool.not_true, Bool.not_false, List.contains_nil, reduceCtorEq, List.contains_cons, Bool.or_false, Bool.false_or, eq_self, forall_const, false_implies, Bool.false_eq_true, Nat.le_refl, List.length_map, List.length_set, List.length_replicate, and_self, implies_true]
    simp only [inI, digN, Bool.false_eq_true, renObj, finP, finI, closeIds, addNew, idsOf, List.flatMap_nil, List.flatMap_cons, List.append_nil, List.nil_append, List.take_zero, nodupB, posOf, idsObj, List.getD_cons_zero, List.getD_cons_succ, List.range, List.range.loop, ren, lentO, mapO, Option.map, ↓reduceIte, Nat.reduceEqDiff, true_and, and_true, List.getElem?_cons_zero, List.getElem?_cons_succ, Nat.reduceAdd, List.contains_nil, Bool.not_false, Bool.and_true, List.map_nil, List.map_cons, List.take_succ_cons]
    refine ⟨fun h => ?_, fun h => ?_⟩
    · have := of_decide_eq_true h
      rw [if_pos this]
      exact ⟨by omega, congrArg some (congrArg (AV.int .u8) (wrap8 (by omega) (by omega)))⟩
    · have := of_decide_eq_false h
      rw [if_neg this]
      exact ⟨by omega, congrArg some (congrArg (AV.int .u8) (wrap8 (by omega) (by omega)))⟩
  · cases hs
def b_rhex_0 : ACode := (.seq (.seq (.reg none [⟨(some 5), (.mv (.t 4)), none⟩, ⟨(some 6), (.bin .lss (.t 5) (.c (.int .i64 20))), none⟩]) (.cond (.t 6) .skip (.exit 0))) (.seq (.block 1 (.reg (some [(0, false), (1, false), (2, false), (3, false), (4, false), (5, false), (6, false), (6, false), (6, false), (6, false), (6, false), (6, false), (12, false), (13, false), (14, true), (15, true)]) [⟨(some 9), (.mv (.t 3)), none⟩, ⟨(some 10), (.mv (.t 4)), none⟩, ⟨(some 11), (.iaA 20 (.t 1) (.t 10)), none⟩, ⟨(some 12), (.ld (.one (.int .u8 0)) (.t 11)), none⟩, ⟨(some 13), (.toInt .i64 (.t 12)), none⟩, ⟨(some 14), (.bin .quo (.t 13) (.c (.int .i64 16))), none⟩, ⟨(some 15), (.call 42 [(.t 14)]), none⟩, ⟨(some 16), (.mv (.t 4)), none⟩, ⟨(some 17), (.iaA 20 (.t 1) (.t 16)), none⟩, ⟨(some 18), (.ld (.one (.int .u8 0)) (.t 17)), none⟩, ⟨(some 19), (.toInt .i64 (.t 18)), none⟩, ⟨(some 20), (.bin .rem (.t 19) (.c (.int .i64 16))), none⟩, ⟨(some 21), (.call 42 [(.t 20)]), none⟩, ⟨(some 22), (.buildSl 5 1 [(.t 15), (.t 21)]), none⟩, ⟨(some 23), (.app 5 1 1 (.t 9) (.t 22)), none⟩, ⟨(some 3), (.mv (.t 23)), none⟩])) (.reg none [⟨(some 7), (.mv (.t 4)), none⟩, ⟨(some 8), (.bin .add (.t 7) (.c (.int .i64 1))), none⟩, ⟨(some 4), (.mv (.t 8)), none⟩])))
def c_rhex : ACode := (.seq (.reg none [⟨(some 1), (.box 22 20 (.t 0)), none⟩, ⟨(some 2), (.mv (.c (.str []))), none⟩]) (.seq (.reg none [⟨(some 3), (.mv (.c (.con (.slice none 0 0)))), none⟩]) (.seq (.seq (.reg none [⟨(some 4), (.mv (.c (.int .i64 0))), none⟩]) (.block 0 (.loop b_rhex_0))) (.seq (.reg none [⟨(some 24), (.mv (.t 3)), none⟩, ⟨(some 25), (.toStr (.t 24)), none⟩, ⟨(some 2), (.mv (.t 25)), none⟩]) .ret))))
def r_rhex : List ARes := [(.t 2)]
theorem s_rhex : slimF Tryz.prog Tryz.f21 = some (c_rhex, r_rhex) := by kernel_rfl
def hexI (l : List UInt8) : List UInt8 := l.flatMap fun u => [UInt8.ofNat (digN (u.toNat / 16)).toNat, UInt8.ofNat (digN (u.toNat % 16)).toNat]
theorem hexI_len (l : List UInt8) : (hexI l).length = 2 * l.length := by
  unfold hexI
  induction l with
  | nil => rfl
  | cons u l ih => rw [List.flatMap_cons, List.length_append, ih]; simp; omega
theorem hexI_append (l m : List UInt8) : hexI (l ++ m) = hexI l ++ hexI m := List.flatMap_append
theorem digN_le {n : Int} (h : 0 ≤ n) (h' : n < 16) : 0 ≤ digN n ∧ digN n < 256 := by unfold digN; split <;> omega
def rhexS : Spec := fun xs hp => match xs, hp with
  | [.blob cs], [] => some ⟨.str (hexI (unV cs)), [], cs = (unV cs).map U ∧ cs.length = 20⟩
  | _, _ => none
theorem rhex_ok : FnOk Tryz.prog 21 rhexS := by
  refine fn_slim Tryz.func21 s_rhex (Φ := phiL [(42, [], digitS)]) (phi_cons digit_ok (by kernel_rfl) phi_nil) ?_
  intro xs hp r hs hp'
  unfold rhexS at hs
  split at hs
  · injection hs with hs; subst hs
    rename_i cs
    refine ⟨len_le (by kernel_rfl), ?_⟩
    obtain ⟨p1, p2⟩ := hp'
    generalize hl : unV cs = l at *
    subst p1
    have hl : l.length = 20 := by simpa using p2
    simp only [c_rhex, r_rhex, awp_scope, noG_n, noG_r, noG_x, awp_skip, awp_reg, awp_draw, awp_seq, awp_cond, awp_block, awp_loop, awp_exit, awp_ret, arun_nil, arun_op, arun_gt, arun_gf, arunD_nil, arunD_op, arunD_gt, arunD_gf, aq_some, isB_t, isB_u, isB_f, isB_g, isB_p, isU_t, isU_b, ifB_t, ifB_f, thenQ_n, thenQ_x, thenQ_r, inQ_n, inQ_r, inQ_x, retQ_n, retQ_r, exD, AOp.isH, keepN, preB, avalP, pureR, astep, stV, stN, stE, stC, aval, anew, aElems, frzS, frzH, aeff, slots, aret, ares, aress, AV.isTup, eqFs, aEqS, ofC_i, ofC_b, ofC_s, ofC_U, getD_mapU, getD_Bs, Bs_len, Int.toNat_natCast, opd, pt, tk, subp, rdP, Rt.size, Rt.isAgg, Rt.zv, aBin, aInt, aStr, arI, aUn, aToInt, aToStr, aIdxS, zv, aIdxA, aIa, aIaA, aFa, aLd, aFld, pparts, aLo, aHi, cutL, aSlS, aSl, aExt, aNck, aNilc, AV.isStr, aLen, AV.one, AV.multi, pureB, szOk, psz, drp, spl, aEqB, aEqA, aMm, aMkfn, aMkif, aBuild, toV, aBuildA, wrP, unparts, view, nilS, St.ev, lk, St.put, St.pin, St.pinV, acall0, acall1, acall2, acall3, bor, bor0, bor1, phiL_nil, phiL_at, tau, lentO, okIds, flatC, flatB, flatOs, flatO, flatPs, place, setAll_nil, setAll_cons, nodupB, renObj, closeIds, addNew, idsOf, idsObj, posOf, lenOk_0, lenOk_1, lenOk_2, lenOk_3, lenOk_4, lenOk_8, ↓reduceIte, Option.isSome_none, Option.isSome_some, Bool.or_true, Bool.true_or,  Nat.reduceEqDiff, Nat.reduceBEq, Nat.reduceSub, Nat.reduceLT, beq_self_eq_true, List.map, List.set, List.map_cons, List.map_nil, List.flatMap_cons, List.flatMap_nil, List.flatten_cons, List.flatten_nil, true_and, and_true, List.length_cons, List.length_nil, Nat.reduceAdd, Nat.reduceLeDiff, List.nil_append, List.cons_append, List.append_nil, Option.map, mapO, ren, kp, kpI, ent, nilG, Option.bind, List.range, List.range.loop, List.getElem?_cons_zero, List.getElem?_cons_succ, List.getElem?_nil, List.getD_cons_zero, List.getD_cons_succ, List.drop_zero, List.drop_succ_cons, List.drop_nil, List.take_zero, List.take_succ_cons, List.all_cons, List.all_nil, List.isEmpty_nil, List.isEmpty_cons, Bool.and_true, Bool.true_and, Bool.not_true, Bool.not_false, List.contains_nil, reduceCtorEq, List.contains_cons, Bool.or_false, Bool.false_or, eq_self, forall_const, false_implies, Bool.false_eq_true, Nat.le_refl, List.length_map, List.length_set, List.length_replicate, and_self, implies_true]
    refine ⟨hl, ?_⟩
    refine loop_at [(3, 5, 1)] [1, 3, 4] [0, 1] (fun k : Nat => ⟨[(1, .ref 0 0 0), (3, .own 1 k), (4, .int .i64 k)], [.cells 22 [(20, .blob (l.map U))], .row 5 1 k (Bs (hexI (l.take k)))]⟩) (fun k => k ≤ 20) (fun k => 20 - k) 0 rfl (by omega) ⟨rfl, rfl⟩ (fun k hk => ?_)
    simp only [b_rhex_0, digitS, awp_scope, noG_n, noG_r, noG_x, awp_skip, awp_reg, awp_draw, awp_seq, awp_cond, awp_block, awp_loop, awp_exit, awp_ret, arun_nil, arun_op, arun_gt, arun_gf, arunD_nil, arunD_op, arunD_gt, arunD_gf, aq_some, isB_t, isB_u, isB_f, isB_g, isB_p, isU_t, isU_b, ifB_t, ifB_f, thenQ_n, thenQ_x, thenQ_r, inQ_n, inQ_r, inQ_x, retQ_n, retQ_r, exD, AOp.isH, keepN, preB, avalP, pureR, astep, stV, stN, stE, stC, aval, anew, aElems, frzS, frzH, aeff, slots, aret, ares, aress, AV.isTup, eqFs, aEqS, ofC_i, ofC_b, ofC_s, ofC_U, getD_mapU, getD_Bs, Bs_len, Int.toNat_natCast, opd, pt, tk, subp, rdP, Rt.size, Rt.isAgg, Rt.zv, aBin, aInt, aStr, arI, aUn, aToInt, aToStr, aIdxS, zv, aIdxA, aIa, aIaA, aFa, aLd, aFld, pparts, aLo, aHi, cutL, aSlS, aSl, aExt, aNck, aNilc, AV.isStr, aLen, AV.one, AV.multi, pureB, szOk, psz, drp, spl, aEqB, aEqA, aMm, aMkfn, aMkif, aBuild, toV, aBuildA, wrP, unparts, view, nilS, St.ev, lk, St.put, St.pin, St.pinV, acall0, acall1, acall2, acall3, bor, bor0, bor1, phiL_nil, phiL_at, tau, lentO, okIds, flatC, flatB, flatOs, flatO, flatPs, place, setAll_nil, setAll_cons, nodupB, renObj, closeIds, addNew, idsOf, idsObj, posOf, lenOk_0, lenOk_1, lenOk_2, lenOk_3, lenOk_4, lenOk_8, ↓reduceIte, Option.isSome_none, Option.isSome_some, Bool.or_true, Bool.true_or,  Nat.reduceEqDiff, Nat.reduceBEq, Nat.reduceSub, Nat.reduceLT, beq_self_eq_true, List.map, List.set, List.map_cons, List.map_nil, List.flatMap_cons, List.flatMap_nil, List.flatten_cons, List.flatten_nil, true_and, and_true, List.length_cons, List.length_nil, Nat.reduceAdd, Nat.reduceLeDiff, List.nil_append, List.cons_append, List.append_nil, Option.map, mapO, ren, kp, kpI, ent, nilG, Option.bind, List.range, List.range.loop, List.getElem?_cons_zero, List.getElem?_cons_succ, List.getElem?_nil, List.getD_cons_zero, List.getD_cons_succ, List.drop_zero, List.drop_succ_cons, List.drop_nil, List.take_zero, List.take_succ_cons, List.all_cons, List.all_nil, List.isEmpty_nil, List.isEmpty_cons, Bool.and_true, Bool.true_and, Bool.not_true, Bool.not_false, List.contains_nil, reduceCtorEq, List.contains_cons, Bool.or_false, Bool.false_or, eq_self, forall_const, false_implies, Bool.false_eq_true, Nat.le_refl, List.length_map, List.length_set, List.length_replicate, and_self, implies_true]
    refine ⟨fun h => ?_, fun h => ?_⟩
    · have hk := of_decide_eq_true h
      have hu := (l.getD k 0).toNat_lt
      have hk' : k < 20 := by omega
      rw [Int.tdiv_eq_ediv_of_nonneg (by omega), Int.tmod_eq_emod_of_nonneg (by omega)]
      have hlen : (hexI (l.take k)).length ≤ 40 := by rw [hexI_len, List.length_take]; omega
      simp only [inI, lenOk, bytesOk, IntKind.bits, Bs, List.length_append, List.length_map, List.length_cons, List.length_nil]
      refine ⟨by omega, by omega, by omega, ⟨by omega, by omega⟩, by omega, by omega, by omega, by omega, by omega, by omega, by omega, ⟨by omega, by omega⟩, k + 1, by omega, by omega, ?_⟩
      rw [take_succ' (by omega), hexI_append, List.map_append]
      simp only [hexI, List.flatMap_cons, List.flatMap_nil, List.append_nil, List.map_cons, List.map_nil]
      rw [ub_int (digN_le (by omega) (by omega)).1 (digN_le (by omega) (by omega)).2, ub_int (digN_le (by omega) (by omega)).1 (digN_le (by omega) (by omega)).2]
      rfl
    · have hk := of_decide_eq_false h
      rw [List.take_of_length_le (by omega)]
      simp only [Bool.false_eq_true, renObj, finP, finI, closeIds, addNew, idsOf, List.flatMap_nil, List.flatMap_cons, List.append_nil, List.nil_append, List.take_zero, nodupB, posOf, idsObj, List.getD_cons_zero, List.getD_cons_succ, List.range, List.range.loop, ren, lentO, mapO, Option.map, ↓reduceIte, Nat.reduceEqDiff, true_and, and_true, List.getElem?_cons_zero, List.getElem?_cons_succ, Nat.reduceAdd, List.contains_nil, Bool.not_false, Bool.and_true, List.map_nil, List.map_cons, List.take_succ_cons, unB_Bs]
  · cases hs
end Go.Proofs.YtfabdnpeohpgnaaGreatDoor
namespace Go.Proofs.YtfabdnpeohpgnaaGreatDoor
set_option linter.all false
open Go.RowKit
theorem digN_digs : ∀ k : Fin 16, digN (k.1 : Int) = ((digs.getD k.1 0).toNat : Int) := by decide
theorem hexI_eq : ∀ l : List UInt8, hexI l = hexL l
  | [] => rfl
  | u :: l => by
    have hu := u.toNat_lt
    have h1 := digN_digs ⟨u.toNat / 16, by omega⟩
    have h2 := digN_digs ⟨u.toNat % 16, by omega⟩
    simp only at h1 h2
    have ih := hexI_eq l
    unfold hexI at ih ⊢
    rw [List.flatMap_cons, ih, hexL, show (u.toNat : Int) / 16 = ((u.toNat / 16 : Nat) : Int) by omega, show (u.toNat : Int) % 16 = ((u.toNat % 16 : Nat) : Int) by omega, h1, h2]
    simp only [Int.toNat_natCast, UInt8.ofNat_toNat, List.cons_append, List.nil_append]
end Go.Proofs.YtfabdnpeohpgnaaGreatDoor
namespace Go.Proofs.YtfabdnpeohpgnaaGreatDoor
set_option linter.all false
open Go.RowKit
end Go.Proofs.YtfabdnpeohpgnaaGreatDoor
namespace Go.Proofs.YtfabdnpeohpgnaaGreatDoor
set_option linter.all false
theorem dv_digF : ∀ k : Fin 16, Lib.indexByte digs (digs.getD k.1 0) = (k.1 : Int) := by decide
theorem dv_dig (k : Nat) (h : k < 16) : dv (digs.getD k 0) = (k : Int) := by unfold dv; exact dv_digF ⟨k, h⟩
theorem dig_dv (c : UInt8) (h : 0 ≤ dv c) : digs.getD (dv c).toNat 0 = c := by
  obtain ⟨o, ho⟩ : ∃ o : Nat, dv c = o := ⟨(dv c).toNat, by omega⟩
  rw [ho]
  unfold dv at ho
  have := (Lib.indexByte_some ho).1
  simp only [Int.toNat_natCast, List.getD_eq_getElem?_getD, this, Option.getD_some]
theorem hexL_at : ∀ (l : List UInt8) (j : Nat), j < l.length → (hexL l).getD (2 * j) 0 = digs.getD ((l.getD j 0).toNat / 16) 0 ∧ (hexL l).getD (2 * j + 1) 0 = digs.getD ((l.getD j 0).toNat % 16) 0
  | [], j, h => absurd h (by simp)
  | b :: l, 0, _ => ⟨rfl, rfl⟩
  | b :: l, j + 1, h => by
    have ih := hexL_at l j (by simpa using h)
    rw [show 2 * (j + 1) = 2 * j + 1 + 1 by omega, hexL, List.getD_cons_succ, List.getD_cons_succ, List.getD_cons_succ, List.getD_cons_succ, List.getD_cons_succ]
    exact ih
theorem hexL_ok : ∀ (l : List UInt8), ∀ c ∈ hexL l, 0 ≤ dv c
  | [], c, h => by cases h
  | b :: l, c, h => by
    have := b.toNat_lt
    rw [hexL, List.mem_cons, List.mem_cons] at h
    rcases h with rfl | rfl | h
    · rw [dv_dig _ (by omega)]; omega
    · rw [dv_dig _ (by omega)]; omega
    · exact hexL_ok l c h
theorem parse_hexN (id : List UInt8) (j : Nat) (hj : j < 20) (h : id.length = 20) : outN (hexL id) 40 j = (id.getD j 0).toNat := by
  obtain ⟨h1, h2⟩ := hexL_at id j (by omega)
  have := (id.getD j 0).toNat_lt
  unfold outN
  rw [if_pos (by omega), h1, h2, dv_dig _ (by omega), dv_dig _ (by omega), Int.toNat_natCast, Int.toNat_natCast]
  omega
theorem parse_hex (id : List UInt8) (h : id.length = 20) : outL (hexL id) 40 = id := by
  apply List.ext_getElem?
  intro j
  unfold outL
  by_cases hj : j < 20
  · rw [List.getElem?_map, List.getElem?_range hj, Option.map_some, parse_hexN id j hj h, UInt8.ofNat_toNat, List.getD_eq_getElem?_getD, List.getElem?_eq_getElem (by omega)]
    rfl
  · rw [List.getElem?_eq_none (by simp; omega), List.getElem?_eq_none (by omega)]
theorem outL_length (s : List UInt8) (i : Nat) : (outL s i).length = 20 := by unfold outL; simp
theorem outL_at (s : List UInt8) (i j : Nat) (h : j < 20) : ((outL s i).getD j 0).toNat = outN s i j := by
  have := outN_lt s i j
  unfold outL
  rw [List.getD_eq_getElem?_getD, List.getElem?_map, List.getElem?_range h]
  simp
  omega
theorem hex_parse (s : List UInt8) (h : s.length = 40) (hv : ∀ c ∈ s, 0 ≤ dv c) : hexL (outL s 40) = s := by
  have hat : ∀ n, n < 40 → 0 ≤ dv (s.getD n 0) := fun n hn => hv _ (by
    rw [List.getD_eq_getElem?_getD, List.getElem?_eq_getElem (by omega)]; exact List.getElem_mem _)
  have key : ∀ n, n < 40 → (hexL (outL s 40)).getD n 0 = s.getD n 0 := by
    intro n hn
    obtain ⟨h1, h2⟩ := hexL_at (outL s 40) (n / 2) (by rw [outL_length]; omega)
    rw [outL_at s 40 (n / 2) (by omega)] at h1 h2
    have hd : outN s 40 (n / 2) = 16 * (dv (s.getD (2 * (n / 2)) 0)).toNat + (dv (s.getD (2 * (n / 2) + 1) 0)).toNat := by
      unfold outN; rw [if_pos (by omega)]
    have l1 := dv_lt (s.getD (2 * (n / 2)) 0)
    have l2 := dv_lt (s.getD (2 * (n / 2) + 1) 0)
    rcases (show n = 2 * (n / 2) ∨ n = 2 * (n / 2) + 1 by omega) with e | e
    · have e1 : outN s 40 (n / 2) / 16 = (dv (s.getD (2 * (n / 2)) 0)).toNat := by omega
      rw [e1, dig_dv _ (hat _ (by omega)), ← e] at h1
      exact h1
    · have e1 : outN s 40 (n / 2) % 16 = (dv (s.getD (2 * (n / 2) + 1) 0)).toNat := by omega
      rw [e1, dig_dv _ (hat _ (by omega)), ← e] at h2
      exact h2
  apply List.ext_getElem?
  intro n
  by_cases hn : n < 40
  · have := key n hn
    rw [List.getD_eq_getElem?_getD, List.getD_eq_getElem?_getD, List.getElem?_eq_getElem (by rw [hexL_length, outL_length]; omega), List.getElem?_eq_getElem (by omega)] at this
    rw [List.getElem?_eq_getElem (by rw [hexL_length, outL_length]; omega), List.getElem?_eq_getElem (by omega)]
    simpa using this
  · rw [List.getElem?_eq_none (by rw [hexL_length, outL_length]; omega), List.getElem?_eq_none (by omega)]
end Go.Proofs.YtfabdnpeohpgnaaGreatDoor
namespace Go.Proofs.YtfabdnpeohpgnaaGreatDoor
set_option linter.all false
open Go.RowKit
def b_rprs_0 : ACode := (.seq (.seq (.reg none [⟨(some 16), (.mv (.t 7)), none⟩, ⟨(some 17), (.bin .lss (.t 16) (.c (.int .i64 256))), none⟩]) (.cond (.t 17) .skip (.exit 2))) (.seq (.block 3 (.seq (.reg (some [(0, false), (1, false), (2, false), (3, false), (4, false), (5, false), (6, false), (7, true), (8, true), (9, false), (10, false), (11, false), (12, false), (13, false), (14, false), (15, false), (16, false), (17, true), (18, true)]) [⟨(some 20), (.mv (.t 0)), none⟩, ⟨(some 21), (.mv (.t 5)), none⟩, ⟨(some 22), (.bin .mul (.c (.int .i64 2)) (.t 21)), none⟩, ⟨(some 23), (.idxS (.t 20) (.t 22)), none⟩, ⟨(some 24), (.mv (.t 7)), none⟩, ⟨(some 25), (.bin .quo (.t 24) (.c (.int .i64 16))), none⟩, ⟨(some 26), (.call 42 [(.t 25)]), none⟩, ⟨(some 27), (.bin .eql (.t 23) (.t 26)), none⟩, ⟨(some 28), (.mv (.t 27)), none⟩, ⟨(some 29), (.mv (.t 0)), (some (28, true))⟩, ⟨(some 30), (.mv (.t 5)), (some (28, true))⟩, ⟨(some 31), (.bin .mul (.c (.int .i64 2)) (.t 30)), (some (28, true))⟩, ⟨(some 32), (.bin .add (.t 31) (.c (.int .i64 1))), (some (28, true))⟩, ⟨(some 33), (.idxS (.t 29) (.t 32)), (some (28, true))⟩, ⟨(some 34), (.mv (.t 7)), (some (28, true))⟩, ⟨(some 35), (.bin .rem (.t 34) (.c (.int .i64 16))), (some (28, true))⟩, ⟨(some 36), (.call 42 [(.t 35)]), (some (28, true))⟩, ⟨(some 37), (.bin .eql (.t 33) (.t 36)), (some (28, true))⟩, ⟨(some 38), (.pick (.t 28) (.t 37) (.c (.bool false))), none⟩]) (.cond (.t 38) (.seq (.reg none [⟨(some 39), (.mv (.t 5)), none⟩, ⟨(some 40), (.mv (.t 7)), none⟩, ⟨(some 41), (.toInt .u8 (.t 40)), none⟩, ⟨(some 42), (.iaA 20 (.t 4) (.t 39)), none⟩, ⟨none, (.st (.one (.int .u8 0)) (.t 42) (.t 41)), none⟩]) (.reg none [⟨(some 6), (.mv (.c (.bool true))), none⟩])) .skip))) (.reg none [⟨(some 18), (.mv (.t 7)), none⟩, ⟨(some 19), (.bin .add (.t 18) (.c (.int .i64 1))), none⟩, ⟨(some 7), (.mv (.t 19)), none⟩])))
def t_rprs_0 : ACode := (.seq (.reg none [⟨(some 43), (.mv (.t 6)), none⟩, ⟨(some 44), (.un .not (.t 43)), none⟩]) (.cond (.t 44) (.seq (.reg none [⟨(some 45), (.buildA (List.replicate 20 (.int .u8 0)) []), none⟩, ⟨none, (.st (.arr 20) (.t 2) (.t 45)), none⟩, ⟨(some 3), (.mv (.c (.bool false))), none⟩]) .ret) .skip))
def t_rprs_1 : ACode := (.reg none [⟨(some 14), (.mv (.t 5)), none⟩, ⟨(some 15), (.bin .add (.t 14) (.c (.int .i64 1))), none⟩, ⟨(some 5), (.mv (.t 15)), none⟩])
def b_rprs_1 : ACode := (.seq (.seq (.reg none [⟨(some 12), (.mv (.t 5)), none⟩, ⟨(some 13), (.bin .lss (.t 12) (.c (.int .i64 20))), none⟩]) (.cond (.t 13) .skip (.exit 0))) (.seq (.block 1 (.seq (.reg none [⟨(some 6), (.mv (.c (.bool false))), none⟩]) (.seq (.seq (.reg none [⟨(some 7), (.mv (.c (.int .i64 0))), none⟩]) (.block 2 (.loop b_rprs_0))) t_rprs_0))) t_rprs_1))
def t_rprs_2 : ACode := (.seq (.reg none [⟨(some 46), (.ld (.arr 20) (.t 4)), none⟩, ⟨none, (.st (.arr 20) (.t 2) (.t 46)), none⟩, ⟨(some 3), (.mv (.c (.bool true))), none⟩]) .ret)
def c_rprs : ACode := (.seq (.reg none [⟨(some 2), (.new 22 [(20, (.blob (List.replicate 20 (.int .u8 0))))]), none⟩, ⟨(some 3), (.mv (.c (.bool false))), none⟩]) (.seq (.reg none [⟨(some 4), (.new 22 [(20, (.blob (List.replicate 20 (.int .u8 0))))]), none⟩]) (.seq (.seq (.reg none [⟨(some 8), (.mv (.t 0)), none⟩, ⟨(some 9), (.len none true (.t 8)), none⟩, ⟨(some 10), (.bin .neq (.t 9) (.c (.int .i64 40))), none⟩]) (.cond (.t 10) (.seq (.reg none [⟨(some 11), (.ld (.arr 20) (.t 4)), none⟩, ⟨none, (.st (.arr 20) (.t 2) (.t 11)), none⟩, ⟨(some 3), (.mv (.c (.bool false))), none⟩]) .ret) .skip)) (.seq (.seq (.reg none [⟨(some 5), (.mv (.c (.int .i64 0))), none⟩]) (.block 0 (.loop b_rprs_1))) t_rprs_2))))
def r_rprs : List ARes := [(.c 2 (.arr 20)), (.t 3)]
theorem s_rprs : slimF Tryz.prog Tryz.f30 = some (c_rprs, r_rprs) := by kernel_rfl
abbrev phiD : Phi := phiL [(42, [], digitS)]
theorem phiD_at : phiD 42 = some ([], digitS) := rfl
def okP (l : List UInt8) (i : Nat) : Prop := 0 ≤ dv (l.getD (2 * i) 0) ∧ 0 ≤ dv (l.getD (2 * i + 1) 0)
instance (l : List UInt8) (i : Nat) : Decidable (okP l i) := inferInstanceAs (Decidable (_ ∧ _))
def valP (l : List UInt8) (i : Nat) : Nat := 16 * (dv (l.getD (2 * i) 0)).toNat + (dv (l.getD (2 * i + 1) 0)).toNat
def idV (l : List UInt8) (i : Nat) : List Value := (List.range i).map (fun j => Value.int .u8 (valP l j : Int)) ++ List.replicate (20 - i) (.int .u8 0)
def idW (l : List UInt8) (i n : Nat) : List Value := (List.range i).map (fun j => Value.int .u8 (valP l j : Int)) ++ [.int .u8 (if okP l i ∧ valP l i < n then (valP l i : Int) else 0)] ++ List.replicate (19 - i) (.int .u8 0)
def stP (l : List UInt8) (i n : Nat) : St := ⟨[(0, .str l), (2, .ref 0 0 0), (3, .bool false), (4, .ref 1 0 0), (5, .int .i64 (i : Int)), (6, .bool (decide (okP l i ∧ valP l i < n))), (7, .int .i64 (n : Int))],
  [.cells 22 [(20, .blob (List.replicate 20 (.int .u8 0)))], .cells 22 [(20, .blob (idW l i n))]]⟩
theorem dvN (c : UInt8) (k : Nat) (h : k < 16) : ((c.toNat : Int) = digN (k : Int)) ↔ dv c = (k : Int) := by
  rw [digN_digs ⟨k, h⟩]
  constructor
  · intro e
    have : c = digs.getD k 0 := UInt8.toNat_inj.1 (Int.ofNat.inj e)
    rw [this]; exact dv_dig k h
  · intro e
    have := dig_dv c (by omega)
    rw [e] at this
    simp only [Int.toNat_natCast] at this
    simp only [this]
theorem idW_len (l : List UInt8) (i n : Nat) (h : i < 20) : (idW l i n).length = 20 := by simp [idW]; omega
theorem idW_set (l : List UInt8) (i n : Nat) (v : Value) : (idW l i n).set i v = (List.range i).map (fun j => Value.int .u8 (valP l j : Int)) ++ [v] ++ List.replicate (19 - i) (.int .u8 0) := by
  unfold idW
  rw [List.append_assoc, List.set_append_right _ _ (by simp)]
  simp
theorem rparse_in (l : List UInt8) (i n : Nat) (K : St → Prop) (Q : Exit → St → Prop) (hl : l.length = 40) (hi : i < 20) (hn : n < 256)
    (hK : ∀ s', kp [0, 2, 3, 4, 5, 6, 7] 2 s' = some (stP l i (n + 1)) → K s') : awp phiD 0 b_rprs_0 (thenQ K Q) (stP l i n) := by
  simp only [b_rprs_0, stP, phiD_at, digitS, aIdxS, awp_scope, noG_n, noG_r, noG_x, awp_skip, awp_reg, awp_draw, awp_seq, awp_cond, awp_block, awp_loop, awp_exit, awp_ret, arun_nil, arun_op, arun_gt, arun_gf, arunD_nil, arunD_op, arunD_gt, arunD_gf, aq_some, isB_t, isB_u, isB_f, isB_g, isB_p, isU_t, isU_b, ifB_t, ifB_f, thenQ_n, thenQ_x, thenQ_r, inQ_n, inQ_r, inQ_x, retQ_n, retQ_r, exD, AOp.isH, keepN, preB, avalP, pureR, astep, stV, stN, stE, stC, aval, anew, aElems, frzS, frzH, aeff, slots, aret, ares, aress, AV.isTup, eqFs, aEqS, ofC_i, ofC_b, ofC_s, ofC_U, getD_mapU, getD_Bs, Bs_len, Int.toNat_natCast, opd, pt, tk, subp, rdP, Rt.size, Rt.isAgg, Rt.zv, aBin, aInt, aStr, arI, aUn, aToInt, aToStr, aIdxS, zv, aIdxA, aIa, aIaA, aFa, aLd, aFld, pparts, aLo, aHi, cutL, aSlS, aSl, aExt, aNck, aNilc, AV.isStr, aLen, AV.one, AV.multi, pureB, szOk, psz, drp, spl, aEqB, aEqA, aMm, aMkfn, aMkif, aBuild, toV, aBuildA, wrP, unparts, view, nilS, St.ev, lk, St.put, St.pin, St.pinV, acall0, acall1, acall2, acall3, bor, bor0, bor1, phiL_nil, phiL_at, tau, lentO, okIds, flatC, flatB, flatOs, flatO, flatPs, place, setAll_nil, setAll_cons, nodupB, renObj, closeIds, addNew, idsOf, idsObj, posOf, lenOk_0, lenOk_1, lenOk_2, lenOk_3, lenOk_4, lenOk_8, ↓reduceIte, Option.isSome_none, Option.isSome_some, Bool.or_true, Bool.true_or,  Nat.reduceEqDiff, Nat.reduceBEq, Nat.reduceSub, Nat.reduceLT, beq_self_eq_true, List.map, List.set, List.map_cons, List.map_nil, List.flatMap_cons, List.flatMap_nil, List.flatten_cons, List.flatten_nil, true_and, and_true, List.length_cons, List.length_nil, Nat.reduceAdd, Nat.reduceLeDiff, List.nil_append, List.cons_append, List.append_nil, Option.map, mapO, ren, kp, kpI, ent, nilG, Option.bind, List.range, List.range.loop, List.getElem?_cons_zero, List.getElem?_cons_succ, List.getElem?_nil, List.getD_cons_zero, List.getD_cons_succ, List.drop_zero, List.drop_succ_cons, List.drop_nil, List.take_zero, List.take_succ_cons, List.all_cons, List.all_nil, List.isEmpty_nil, List.isEmpty_cons, Bool.and_true, Bool.true_and, Bool.not_true, Bool.not_false, List.contains_nil, reduceCtorEq, List.contains_cons, Bool.or_false, Bool.false_or, eq_self, forall_const, false_implies, Bool.false_eq_true, Nat.le_refl, List.length_map, List.length_set, List.length_replicate, and_self, implies_true]
  have e0 : (2 * (i : Int)).toNat = 2 * i := by omega
  have e1 : (2 * (i : Int) + 1).toNat = 2 * i + 1 := by omega
  rw [e0, e1, Int.tdiv_eq_ediv_of_nonneg (by omega), Int.tmod_eq_emod_of_nonneg (by omega), idW_len l i n hi, hl]
  have h1 := dvN (l.getD (2 * i) 0) (n / 16) (by omega)
  have h2 := dvN (l.getD (2 * i + 1) 0) (n % 16) (by omega)
  rw [show (n : Int) / 16 = ((n / 16 : Nat) : Int) by omega, show (n : Int) % 16 = ((n % 16 : Nat) : Int) by omega]
  have a1 : at8 l (2 * i) = ((l.getD (2 * i) 0).toNat : Int) := rfl
  have a2 : at8 l (2 * i + 1) = ((l.getD (2 * i + 1) 0).toNat : Int) := rfl
  rw [a1, a2]
  refine ⟨fun _ => ?_, fun hf => absurd (of_decide_eq_false hf) (by omega)⟩
  refine ⟨by simp only [inI]; omega, by omega, ⟨by omega, by simp only [inI]; omega⟩, by omega, fun hd => ?_, fun hd => ?_⟩
  · have hd := h1.1 (of_decide_eq_true hd)
    refine ⟨by simp only [inI]; omega, by simp only [inI]; omega, by omega, by omega, by omega, fun hg => ?_, fun hg => ?_⟩
    · have hg := h2.1 (of_decide_eq_true hg)
      have hok : okP l i := ⟨by rw [hd]; omega, by rw [hg]; omega⟩
      have hv : valP l i = n := by unfold valP; rw [hd, hg]; simp only [Int.toNat_natCast]; omega
      refine ⟨by omega, hi, by simp only [inI]; omega, hK _ ?_⟩
      rw [wrap8 (by omega) (by omega), idW_set]
      simp only [stP, awp_scope, noG_n, noG_r, noG_x, awp_skip, awp_reg, awp_draw, awp_seq, awp_cond, awp_block, awp_loop, awp_exit, awp_ret, arun_nil, arun_op, arun_gt, arun_gf, arunD_nil, arunD_op, arunD_gt, arunD_gf, aq_some, isB_t, isB_u, isB_f, isB_g, isB_p, isU_t, isU_b, ifB_t, ifB_f, thenQ_n, thenQ_x, thenQ_r, inQ_n, inQ_r, inQ_x, retQ_n, retQ_r, exD, AOp.isH, keepN, preB, avalP, pureR, astep, stV, stN, stE, stC, aval, anew, aElems, frzS, frzH, aeff, slots, aret, ares, aress, AV.isTup, eqFs, aEqS, ofC_i, ofC_b, ofC_s, ofC_U, getD_mapU, getD_Bs, Bs_len, Int.toNat_natCast, opd, pt, tk, subp, rdP, Rt.size, Rt.isAgg, Rt.zv, aBin, aInt, aStr, arI, aUn, aToInt, aToStr, aIdxS, zv, aIdxA, aIa, aIaA, aFa, aLd, aFld, pparts, aLo, aHi, cutL, aSlS, aSl, aExt, aNck, aNilc, AV.isStr, aLen, AV.one, AV.multi, pureB, szOk, psz, drp, spl, aEqB, aEqA, aMm, aMkfn, aMkif, aBuild, toV, aBuildA, wrP, unparts, view, nilS, St.ev, lk, St.put, St.pin, St.pinV, acall0, acall1, acall2, acall3, bor, bor0, bor1, phiL_nil, phiL_at, tau, lentO, okIds, flatC, flatB, flatOs, flatO, flatPs, place, setAll_nil, setAll_cons, nodupB, renObj, closeIds, addNew, idsOf, idsObj, posOf, lenOk_0, lenOk_1, lenOk_2, lenOk_3, lenOk_4, lenOk_8, ↓reduceIte, Option.isSome_none, Option.isSome_some, Bool.or_true, Bool.true_or,  Nat.reduceEqDiff, Nat.reduceBEq, Nat.reduceSub, Nat.reduceLT, beq_self_eq_true, List.map, List.set, List.map_cons, List.map_nil, List.flatMap_cons, List.flatMap_nil, List.flatten_cons, List.flatten_nil, true_and, and_true, List.length_cons, List.length_nil, Nat.reduceAdd, Nat.reduceLeDiff, List.nil_append, List.cons_append, List.append_nil, Option.map, mapO, ren, kp, kpI, ent, nilG, Option.bind, List.range, List.range.loop, List.getElem?_cons_zero, List.getElem?_cons_succ, List.getElem?_nil, List.getD_cons_zero, List.getD_cons_succ, List.drop_zero, List.drop_succ_cons, List.drop_nil, List.take_zero, List.take_succ_cons, List.all_cons, List.all_nil, List.isEmpty_nil, List.isEmpty_cons, Bool.and_true, Bool.true_and, Bool.not_true, Bool.not_false, List.contains_nil, reduceCtorEq, List.contains_cons, Bool.or_false, Bool.false_or, eq_self, forall_const, false_implies, Bool.false_eq_true, Nat.le_refl, List.length_map, List.length_set, List.length_replicate, and_self, implies_true]
      have e : decide (okP l i ∧ valP l i < n + 1) = true := decide_eq_true ⟨hok, by omega⟩
      rw [e]
      unfold idW
      rw [if_pos (show okP l i ∧ valP l i < n + 1 from ⟨hok, by omega⟩), hv]
      rfl
    · have hg : ¬ dv (l.getD (2 * i + 1) 0) = ((n % 16 : Nat) : Int) := fun h => of_decide_eq_false hg (h2.2 h)
      have key : (okP l i ∧ valP l i < n + 1) ↔ (okP l i ∧ valP l i < n) := by
        constructor
        · rintro ⟨⟨k1, k2⟩, k3⟩
          refine ⟨⟨k1, k2⟩, ?_⟩
          have b1 := dv_lt (l.getD (2 * i) 0)
          have b2 := dv_lt (l.getD (2 * i + 1) 0)
          unfold valP at k3 ⊢
          clear h1 h2 hK
          generalize dv (l.getD (2 * i) 0) = x at *
          generalize dv (l.getD (2 * i + 1) 0) = y at *
          omega
        · rintro ⟨k1, k3⟩; exact ⟨k1, by omega⟩
      refine ⟨by simp only [inI]; omega, hK _ ?_⟩
      simp only [stP, idW, key, awp_scope, noG_n, noG_r, noG_x, awp_skip, awp_reg, awp_draw, awp_seq, awp_cond, awp_block, awp_loop, awp_exit, awp_ret, arun_nil, arun_op, arun_gt, arun_gf, arunD_nil, arunD_op, arunD_gt, arunD_gf, aq_some, isB_t, isB_u, isB_f, isB_g, isB_p, isU_t, isU_b, ifB_t, ifB_f, thenQ_n, thenQ_x, thenQ_r, inQ_n, inQ_r, inQ_x, retQ_n, retQ_r, exD, AOp.isH, keepN, preB, avalP, pureR, astep, stV, stN, stE, stC, aval, anew, aElems, frzS, frzH, aeff, slots, aret, ares, aress, AV.isTup, eqFs, aEqS, ofC_i, ofC_b, ofC_s, ofC_U, getD_mapU, getD_Bs, Bs_len, Int.toNat_natCast, opd, pt, tk, subp, rdP, Rt.size, Rt.isAgg, Rt.zv, aBin, aInt, aStr, arI, aUn, aToInt, aToStr, aIdxS, zv, aIdxA, aIa, aIaA, aFa, aLd, aFld, pparts, aLo, aHi, cutL, aSlS, aSl, aExt, aNck, aNilc, AV.isStr, aLen, AV.one, AV.multi, pureB, szOk, psz, drp, spl, aEqB, aEqA, aMm, aMkfn, aMkif, aBuild, toV, aBuildA, wrP, unparts, view, nilS, St.ev, lk, St.put, St.pin, St.pinV, acall0, acall1, acall2, acall3, bor, bor0, bor1, phiL_nil, phiL_at, tau, lentO, okIds, flatC, flatB, flatOs, flatO, flatPs, place, setAll_nil, setAll_cons, nodupB, renObj, closeIds, addNew, idsOf, idsObj, posOf, lenOk_0, lenOk_1, lenOk_2, lenOk_3, lenOk_4, lenOk_8, ↓reduceIte, Option.isSome_none, Option.isSome_some, Bool.or_true, Bool.true_or,  Nat.reduceEqDiff, Nat.reduceBEq, Nat.reduceSub, Nat.reduceLT, beq_self_eq_true, List.map, List.set, List.map_cons, List.map_nil, List.flatMap_cons, List.flatMap_nil, List.flatten_cons, List.flatten_nil, true_and, and_true, List.length_cons, List.length_nil, Nat.reduceAdd, Nat.reduceLeDiff, List.nil_append, List.cons_append, List.append_nil, Option.map, mapO, ren, kp, kpI, ent, nilG, Option.bind, List.range, List.range.loop, List.getElem?_cons_zero, List.getElem?_cons_succ, List.getElem?_nil, List.getD_cons_zero, List.getD_cons_succ, List.drop_zero, List.drop_succ_cons, List.drop_nil, List.take_zero, List.take_succ_cons, List.all_cons, List.all_nil, List.isEmpty_nil, List.isEmpty_cons, Bool.and_true, Bool.true_and, Bool.not_true, Bool.not_false, List.contains_nil, reduceCtorEq, List.contains_cons, Bool.or_false, Bool.false_or, eq_self, forall_const, false_implies, Bool.false_eq_true, Nat.le_refl, List.length_map, List.length_set, List.length_replicate, and_self, implies_true]
      rfl
  · have hd : ¬ dv (l.getD (2 * i) 0) = ((n / 16 : Nat) : Int) := fun h => of_decide_eq_false hd (h1.2 h)
    have key : (okP l i ∧ valP l i < n + 1) ↔ (okP l i ∧ valP l i < n) := by
      constructor
      · rintro ⟨⟨k1, k2⟩, k3⟩
        refine ⟨⟨k1, k2⟩, ?_⟩
        have b1 := dv_lt (l.getD (2 * i) 0)
        have b2 := dv_lt (l.getD (2 * i + 1) 0)
        unfold valP at k3 ⊢
        clear h1 h2 hK
        generalize dv (l.getD (2 * i) 0) = x at *
        generalize dv (l.getD (2 * i + 1) 0) = y at *
        omega
      · rintro ⟨k1, k3⟩; exact ⟨k1, by omega⟩
    refine ⟨by simp only [inI]; omega, hK _ ?_⟩
    simp only [stP, idW, key, awp_scope, noG_n, noG_r, noG_x, awp_skip, awp_reg, awp_draw, awp_seq, awp_cond, awp_block, awp_loop, awp_exit, awp_ret, arun_nil, arun_op, arun_gt, arun_gf, arunD_nil, arunD_op, arunD_gt, arunD_gf, aq_some, isB_t, isB_u, isB_f, isB_g, isB_p, isU_t, isU_b, ifB_t, ifB_f, thenQ_n, thenQ_x, thenQ_r, inQ_n, inQ_r, inQ_x, retQ_n, retQ_r, exD, AOp.isH, keepN, preB, avalP, pureR, astep, stV, stN, stE, stC, aval, anew, aElems, frzS, frzH, aeff, slots, aret, ares, aress, AV.isTup, eqFs, aEqS, ofC_i, ofC_b, ofC_s, ofC_U, getD_mapU, getD_Bs, Bs_len, Int.toNat_natCast, opd, pt, tk, subp, rdP, Rt.size, Rt.isAgg, Rt.zv, aBin, aInt, aStr, arI, aUn, aToInt, aToStr, aIdxS, zv, aIdxA, aIa, aIaA, aFa, aLd, aFld, pparts, aLo, aHi, cutL, aSlS, aSl, aExt, aNck, aNilc, AV.isStr, aLen, AV.one, AV.multi, pureB, szOk, psz, drp, spl, aEqB, aEqA, aMm, aMkfn, aMkif, aBuild, toV, aBuildA, wrP, unparts, view, nilS, St.ev, lk, St.put, St.pin, St.pinV, acall0, acall1, acall2, acall3, bor, bor0, bor1, phiL_nil, phiL_at, tau, lentO, okIds, flatC, flatB, flatOs, flatO, flatPs, place, setAll_nil, setAll_cons, nodupB, renObj, closeIds, addNew, idsOf, idsObj, posOf, lenOk_0, lenOk_1, lenOk_2, lenOk_3, lenOk_4, lenOk_8, ↓reduceIte, Option.isSome_none, Option.isSome_some, Bool.or_true, Bool.true_or,  Nat.reduceEqDiff, Nat.reduceBEq, Nat.reduceSub, Nat.reduceLT, beq_self_eq_true, List.map, List.set, List.map_cons, List.map_nil, List.flatMap_cons, List.flatMap_nil, List.flatten_cons, List.flatten_nil, true_and, and_true, List.length_cons, List.length_nil, Nat.reduceAdd, Nat.reduceLeDiff, List.nil_append, List.cons_append, List.append_nil, Option.map, mapO, ren, kp, kpI, ent, nilG, Option.bind, List.range, List.range.loop, List.getElem?_cons_zero, List.getElem?_cons_succ, List.getElem?_nil, List.getD_cons_zero, List.getD_cons_succ, List.drop_zero, List.drop_succ_cons, List.drop_nil, List.take_zero, List.take_succ_cons, List.all_cons, List.all_nil, List.isEmpty_nil, List.isEmpty_cons, Bool.and_true, Bool.true_and, Bool.not_true, Bool.not_false, List.contains_nil, reduceCtorEq, List.contains_cons, Bool.or_false, Bool.false_or, eq_self, forall_const, false_implies, Bool.false_eq_true, Nat.le_refl, List.length_map, List.length_set, List.length_replicate, and_self, implies_true]
    rfl
end Go.Proofs.YtfabdnpeohpgnaaGreatDoor
