/- ShaSums and ShaLong on abstract values: sums are the document's. -/
import Derived.Test.YtbefhofmbiedgaaF02
namespace Go.Proofs.Ytbefhofmbiedgaa
set_option linter.all false
open Go.RowKit
/-! tramway/tramwaylaw02.ShaSums -/
def c_shaSums : ACode := (.seq (.reg none [⟨(some 2), (.mv (.c (.bool false))), none⟩]) (.seq (.reg none [⟨(some 4), (.mv (.t 0)), none⟩, ⟨(some 5), (.mv (.t 0)), none⟩, ⟨(some 6), (.len none false (.t 5)), none⟩, ⟨(some 7), (.mm false (.t 6) (.c (.int .i64 2000))), none⟩, ⟨(some 8), (.sl 1 (.t 4) none (some (.t 7))), none⟩, ⟨(some 0), (.mv (.t 8)), none⟩]) (.seq (.reg none [⟨(some 9), (.mv (.t 0)), none⟩, ⟨(some 10), (.toStr (.t 9)), none⟩, ⟨(some 3), (.mv (.t 10)), none⟩]) (.seq (.reg none [⟨(some 11), (.call 8 []), none⟩, ⟨(some 12), (.mv (.t 11)), none⟩, ⟨(some 13), (.mv (.t 0)), (some (12, true))⟩, ⟨(some 14), (.buildSl 22 1 [(.t 13)]), (some (12, true))⟩, ⟨(some 15), (.call 9 [(.t 14)]), (some (12, true))⟩, ⟨(some 16), (.mv (.t 0)), (some (12, true))⟩, ⟨(some 17), (.call 10 [(.t 16)]), (some (12, true))⟩, ⟨(some 18), (.eqA false 20 (.t 15) (.t 17)), (some (12, true))⟩, ⟨(some 19), (.pick (.t 12) (.t 18) (.c (.bool false))), none⟩, ⟨(some 20), (.mv (.t 19)), none⟩, ⟨(some 21), (.mv (.t 0)), (some (20, true))⟩, ⟨(some 22), (.toStr (.t 21)), (some (20, true))⟩, ⟨(some 23), (.mv (.t 3)), (some (20, true))⟩, ⟨(some 24), (.bin .eql (.t 22) (.t 23)), (some (20, true))⟩, ⟨(some 25), (.pick (.t 20) (.t 24) (.c (.bool false))), none⟩, ⟨(some 2), (.mv (.t 25)), none⟩]) .ret))))
def r_shaSums : List ARes := [(.t 2)]
theorem s_shaSums : slimF Try.prog Try.f3 = some (c_shaSums, r_shaSums) := by kernel_rfl
/-! tramway/tramwaylaw02.ShaLong -/
def b_shaLong_0 : ACode := (.seq (.seq (.reg none [⟨(some 11), (.mv (.t 6)), none⟩, ⟨(some 12), (.mv (.t 0)), none⟩, ⟨(some 13), (.bin .lss (.t 11) (.t 12)), none⟩]) (.cond (.t 13) .skip (.exit 0))) (.seq (.block 1 (.reg none [⟨(some 16), (.mv (.t 5)), none⟩, ⟨(some 17), (.mv (.t 1)), none⟩, ⟨(some 18), (.buildSl 5 1 [(.t 17)]), none⟩, ⟨(some 19), (.app 5 1 1 (.t 16) (.t 18)), none⟩, ⟨(some 5), (.mv (.t 19)), none⟩])) (.reg none [⟨(some 14), (.mv (.t 6)), none⟩, ⟨(some 15), (.bin .add (.t 14) (.c (.int .i64 1))), none⟩, ⟨(some 6), (.mv (.t 15)), none⟩])))
def t_shaLong_0 : ACode := (.seq (.reg none [⟨(some 20), (.call 8 []), none⟩, ⟨(some 21), (.mv (.t 20)), none⟩, ⟨(some 22), (.mv (.t 5)), (some (21, true))⟩, ⟨(some 23), (.buildSl 22 1 [(.t 22)]), (some (21, true))⟩, ⟨(some 24), (.call 9 [(.t 23)]), (some (21, true))⟩, ⟨(some 25), (.mv (.t 5)), (some (21, true))⟩, ⟨(some 26), (.call 10 [(.t 25)]), (some (21, true))⟩, ⟨(some 27), (.eqA false 20 (.t 24) (.t 26)), (some (21, true))⟩, ⟨(some 28), (.pick (.t 21) (.t 27) (.c (.bool false))), none⟩, ⟨(some 4), (.mv (.t 28)), none⟩]) .ret)
def c_shaLong : ACode := (.seq (.reg none [⟨(some 4), (.mv (.c (.bool false))), none⟩]) (.seq (.reg none [⟨(some 7), (.mv (.t 0)), none⟩, ⟨(some 8), (.toInt .u64 (.t 7)), none⟩, ⟨(some 9), (.bin .rem (.t 8) (.c (.int .u64 400))), none⟩, ⟨(some 10), (.toInt .i64 (.t 9)), none⟩, ⟨(some 0), (.mv (.t 10)), none⟩]) (.seq (.reg none [⟨(some 5), (.mv (.c (.con (.slice none 0 0)))), none⟩]) (.seq (.seq (.reg none [⟨(some 6), (.mv (.c (.int .i64 0))), none⟩]) (.block 0 (.loop b_shaLong_0))) t_shaLong_0))))
def r_shaLong : List ARes := [(.t 4)]
theorem s_shaLong : slimF Try.prog Try.f5 = some (c_shaLong, r_shaLong) := by kernel_rfl

def phi02 : Phi := phiL [(8, [], knownS), (9, [], sumS), (10, [], rsumS)]
theorem phi02_ok : PhiOk Try.prog phi02 := phi_cons known_ok (by kernel_rfl) (phi_cons sum_ok (by kernel_rfl) (phi_cons rsum_ok (by kernel_rfl) phi_nil))
theorem phi02_k : phi02 8 = some ([], knownS) := rfl
theorem phi02_s : phi02 9 = some ([], sumS) := rfl
theorem phi02_r : phi02 10 = some ([], rsumS) := rfl
def shaSumsS : Spec := fun xs hp => match xs, hp with
  | [.sl 1 bs], [] => some ⟨.bool true, [], bs = Bs (unB bs)⟩
  | _, _ => none
theorem shaSums_ok : FnOk Try.prog 3 shaSumsS := by
  refine fn_slim Try.func3 s_shaSums phi02_ok ?_
  intro xs hp r hs hp'
  unfold shaSumsS at hs
  split at hs
  · injection hs with hs; subst hs
    rename_i bs
    refine ⟨len_le (by kernel_rfl), ?_⟩
    have p1 : bs = Bs (unB bs) := hp'
    generalize unB bs = l at *
    subst p1
    simp only [c_shaSums, r_shaSums, phi02_k, phi02_s, phi02_r, knownS, sumS, rsumS, ← Bs_take, ← Bs_drop, unB_Bs, unV_U, unSl, slB, Int.reduceToNat, awp_skip, awp_reg, awp_draw, awp_seq, awp_cond, awp_block, awp_loop, awp_exit, awp_ret, arun_nil, arun_op, arun_gd, arunD_nil, arunD_op, arunD_gd, aq_some, gdQ_b, condQ_b, thenQ_n, thenQ_x, thenQ_r, inQ_n, inQ_r, inQ_x, retQ_n, retQ_r, exD, AOp.isH, preB, astep, stV, stN, stE, stC, aval, anew, aElems, frzS, frzH, aeff, slots, aret, ares, aress, AV.isTup, ofC_i, ofC_b, ofC_s, ofC_U, getD_mapU, getD_Bs, Bs_len, Int.toNat_natCast, opd, pt, tk, subp, rdP, Rt.size, Rt.isAgg, Rt.zv, aBin, aInt, aStr, arI, aUn, aToInt, aToStr, aIdxS, zv, aIdxA, aIa, aIaA, aFa, aLd, aFld, pparts, aLo, aHi, cutL, aSlS, aSl, aExt, aNck, AV.isStr, aLen, AV.one, AV.multi, pureB, szOk, psz, drp, spl, aEqB, aEqA, aMm, aMkfn, aMkif, aBuild, toV, aBuildA, wrP, unparts, view, nilS, St.ev, lk, St.put, St.pin, acall0, acall1, acall2, acall3, bor, bor0, bor1, phiL_nil, phiL_at, tau, lentO, okIds, flatC, flatB, flatOs, flatO, place, setAll_nil, setAll_cons, nodupB, renObj, closeIds, addNew, idsOf, idsObj, posOf, reduceIte, Option.isSome_none, Option.isSome_some, Bool.or_true, Bool.true_or,  Nat.reduceEqDiff, Nat.reduceBEq, Nat.reduceSub, Nat.reduceLT, beq_self_eq_true, List.map, List.set, List.map_cons, List.map_nil, List.flatMap_cons, List.flatMap_nil, List.flatten_cons, List.flatten_nil, true_and, and_true, List.length_cons, List.length_nil, Nat.reduceAdd, Nat.reduceLeDiff, List.nil_append, List.cons_append, List.append_nil, Option.map, mapO, ren, kp, kpI, ent, nilG, Option.bind, List.range, List.range.loop, List.getElem?_cons_zero, List.getElem?_cons_succ, List.getElem?_nil, List.getD_cons_zero, List.getD_cons_succ, List.drop_zero, List.drop_succ_cons, List.drop_nil, List.take_zero, List.take_succ_cons, List.all_cons, List.all_nil, List.isEmpty_nil, List.isEmpty_cons, Bool.and_true, Bool.true_and, Bool.not_true, Bool.not_false, List.contains_nil, reduceCtorEq, List.contains_cons, Bool.or_false, Bool.false_or, eq_self, forall_const, false_implies, Bool.false_eq_true, Nat.le_refl, List.length_map, List.length_set, List.length_replicate, and_self, implies_true]
    refine ⟨by omega, by rw [List.length_take]; omega, by rw [List.length_take]; omega, sha_len _, fun _ => ?_, fun hf => ?_⟩
    · simp only [decide_true, finP, finI, closeIds, addNew, idsOf, List.flatMap_nil, List.take_zero, nodupB, posOf, idsObj, List.getD_cons_zero, List.getD_cons_succ, List.range, List.range.loop, ren, lentO, mapO, Option.map, reduceIte, Nat.reduceEqDiff, true_and, and_true, List.getElem?_cons_zero, List.getElem?_cons_succ, Nat.reduceAdd, List.contains_nil, Bool.not_false, Bool.and_true, List.map_nil, List.map_cons, List.take_succ_cons]
    · simp at hf
  · cases hs
theorem shaSums_walk {A0 : Option Addr} {n0 c0 : Nat} {b0 : List UInt8} (w : World) (q0 : Arg w A0 n0 c0 b0) :
    Calls Try.prog 3 #[.slice A0 n0 c0] w fun e w' => e = .returned (.bool true) ∧ Below w.heap.size w w' :=
  shaSums_ok.calls_bool (xs := [.sl 1 (Bs b0)]) rfl (show Bs b0 = Bs (unB (Bs b0)) by rw [unB_Bs]) rfl (args_cons q0.vl args_nil)
def shaLongS : Spec := fun xs hp => match xs, hp with
  | [.int .i64 n, .int .u8 c], [] => some ⟨.bool true, [], 0 ≤ c ∧ c < 256⟩
  | _, _ => none
theorem shaLong_ok : FnOk Try.prog 5 shaLongS := by
  refine fn_slim Try.func5 s_shaLong phi02_ok ?_
  intro xs hp r hs hp'
  unfold shaLongS at hs
  split at hs
  · injection hs with hs; subst hs
    rename_i n c
    refine ⟨len_le (by kernel_rfl), ?_⟩
    obtain ⟨p1, p2⟩ := hp'
    obtain ⟨u, rfl⟩ : ∃ u : UInt8, c = (u.toNat : Int) := ⟨UInt8.ofNat c.toNat, by rw [UInt8.toNat_ofNat']; omega⟩
    simp only [c_shaLong, awp_skip, awp_reg, awp_draw, awp_seq, awp_cond, awp_block, awp_loop, awp_exit, awp_ret, arun_nil, arun_op, arun_gd, arunD_nil, arunD_op, arunD_gd, aq_some, gdQ_b, condQ_b, thenQ_n, thenQ_x, thenQ_r, inQ_n, inQ_r, inQ_x, retQ_n, retQ_r, exD, AOp.isH, preB, astep, stV, stN, stE, stC, aval, anew, aElems, frzS, frzH, aeff, slots, aret, ares, aress, AV.isTup, ofC_i, ofC_b, ofC_s, ofC_U, getD_mapU, getD_Bs, Bs_len, Int.toNat_natCast, opd, pt, tk, subp, rdP, Rt.size, Rt.isAgg, Rt.zv, aBin, aInt, aStr, arI, aUn, aToInt, aToStr, aIdxS, zv, aIdxA, aIa, aIaA, aFa, aLd, aFld, pparts, aLo, aHi, cutL, aSlS, aSl, aExt, aNck, AV.isStr, aLen, AV.one, AV.multi, pureB, szOk, psz, drp, spl, aEqB, aEqA, aMm, aMkfn, aMkif, aBuild, toV, aBuildA, wrP, unparts, view, nilS, St.ev, lk, St.put, St.pin, acall0, acall1, acall2, acall3, bor, bor0, bor1, phiL_nil, phiL_at, tau, lentO, okIds, flatC, flatB, flatOs, flatO, place, setAll_nil, setAll_cons, nodupB, renObj, closeIds, addNew, idsOf, idsObj, posOf, reduceIte, Option.isSome_none, Option.isSome_some, Bool.or_true, Bool.true_or,  Nat.reduceEqDiff, Nat.reduceBEq, Nat.reduceSub, Nat.reduceLT, beq_self_eq_true, List.map, List.set, List.map_cons, List.map_nil, List.flatMap_cons, List.flatMap_nil, List.flatten_cons, List.flatten_nil, true_and, and_true, List.length_cons, List.length_nil, Nat.reduceAdd, Nat.reduceLeDiff, List.nil_append, List.cons_append, List.append_nil, Option.map, mapO, ren, kp, kpI, ent, nilG, Option.bind, List.range, List.range.loop, List.getElem?_cons_zero, List.getElem?_cons_succ, List.getElem?_nil, List.getD_cons_zero, List.getD_cons_succ, List.drop_zero, List.drop_succ_cons, List.drop_nil, List.take_zero, List.take_succ_cons, List.all_cons, List.all_nil, List.isEmpty_nil, List.isEmpty_cons, Bool.and_true, Bool.true_and, Bool.not_true, Bool.not_false, List.contains_nil, reduceCtorEq, List.contains_cons, Bool.or_false, Bool.false_or, eq_self, forall_const, false_implies, Bool.false_eq_true, Nat.le_refl, List.length_map, List.length_set, List.length_replicate, and_self, implies_true]
    have hw : 0 ≤ IntKind.u64.wrap n := by rw [IntKind.wrap_u64]; omega
    rw [Int.tmod_eq_emod_of_nonneg hw]
    obtain ⟨m, hm, hm4⟩ : ∃ m : Nat, IntKind.u64.wrap n % 400 = (m : Int) ∧ m < 400 := ⟨(IntKind.u64.wrap n % 400).toNat, by omega, by omega⟩
    rw [hm]
    refine ⟨by omega, by simp only [inI]; omega, ?_⟩
    refine loop_at [(5, 5, 1)] [0, 1, 5, 6] [0] (fun k : Nat => ⟨[(0, .int .i64 (m : Int)), (1, .int .u8 (u.toNat : Int)), (5, .own 0 k), (6, .int .i64 (k : Int))], [.row 5 1 k (Bs (List.replicate k u))]⟩) (fun k => k ≤ m) (fun k => m - k) 0 rfl (by omega) ⟨rfl, rfl⟩ (fun k hk => ?_)
    simp only [b_shaLong_0, awp_skip, awp_reg, awp_draw, awp_seq, awp_cond, awp_block, awp_loop, awp_exit, awp_ret, arun_nil, arun_op, arun_gd, arunD_nil, arunD_op, arunD_gd, aq_some, gdQ_b, condQ_b, thenQ_n, thenQ_x, thenQ_r, inQ_n, inQ_r, inQ_x, retQ_n, retQ_r, exD, AOp.isH, preB, astep, stV, stN, stE, stC, aval, anew, aElems, frzS, frzH, aeff, slots, aret, ares, aress, AV.isTup, ofC_i, ofC_b, ofC_s, ofC_U, getD_mapU, getD_Bs, Bs_len, Int.toNat_natCast, opd, pt, tk, subp, rdP, Rt.size, Rt.isAgg, Rt.zv, aBin, aInt, aStr, arI, aUn, aToInt, aToStr, aIdxS, zv, aIdxA, aIa, aIaA, aFa, aLd, aFld, pparts, aLo, aHi, cutL, aSlS, aSl, aExt, aNck, AV.isStr, aLen, AV.one, AV.multi, pureB, szOk, psz, drp, spl, aEqB, aEqA, aMm, aMkfn, aMkif, aBuild, toV, aBuildA, wrP, unparts, view, nilS, St.ev, lk, St.put, St.pin, acall0, acall1, acall2, acall3, bor, bor0, bor1, phiL_nil, phiL_at, tau, lentO, okIds, flatC, flatB, flatOs, flatO, place, setAll_nil, setAll_cons, nodupB, renObj, closeIds, addNew, idsOf, idsObj, posOf, reduceIte, Option.isSome_none, Option.isSome_some, Bool.or_true, Bool.true_or,  Nat.reduceEqDiff, Nat.reduceBEq, Nat.reduceSub, Nat.reduceLT, beq_self_eq_true, List.map, List.set, List.map_cons, List.map_nil, List.flatMap_cons, List.flatMap_nil, List.flatten_cons, List.flatten_nil, true_and, and_true, List.length_cons, List.length_nil, Nat.reduceAdd, Nat.reduceLeDiff, List.nil_append, List.cons_append, List.append_nil, Option.map, mapO, ren, kp, kpI, ent, nilG, Option.bind, List.range, List.range.loop, List.getElem?_cons_zero, List.getElem?_cons_succ, List.getElem?_nil, List.getD_cons_zero, List.getD_cons_succ, List.drop_zero, List.drop_succ_cons, List.drop_nil, List.take_zero, List.take_succ_cons, List.all_cons, List.all_nil, List.isEmpty_nil, List.isEmpty_cons, Bool.and_true, Bool.true_and, Bool.not_true, Bool.not_false, List.contains_nil, reduceCtorEq, List.contains_cons, Bool.or_false, Bool.false_or, eq_self, forall_const, false_implies, Bool.false_eq_true, Nat.le_refl, List.length_map, List.length_set, List.length_replicate, and_self, implies_true]
    refine ⟨fun hc => ?_, fun hc => ?_⟩
    · have hc := of_decide_eq_true hc
      simp only [List.length_append, Bs_len, List.length_replicate, List.length_cons, List.length_nil]
      repeat' apply And.intro
      any_goals omega
      refine ⟨k + 1, by omega, by omega, ?_⟩
      rw [List.replicate_succ', show Bs (List.replicate k u ++ [u]) = Bs (List.replicate k u) ++ [.int .u8 (u.toNat : Int)] by simp [Bs, ub]]
      rfl
    · have hc := of_decide_eq_false hc
      have hkm : k = m := by omega
      subst hkm
      simp only [t_shaLong_0, r_shaLong, phi02_k, phi02_s, phi02_r, knownS, sumS, rsumS, unB_Bs, unV_U, unSl, slB, awp_skip, awp_reg, awp_draw, awp_seq, awp_cond, awp_block, awp_loop, awp_exit, awp_ret, arun_nil, arun_op, arun_gd, arunD_nil, arunD_op, arunD_gd, aq_some, gdQ_b, condQ_b, thenQ_n, thenQ_x, thenQ_r, inQ_n, inQ_r, inQ_x, retQ_n, retQ_r, exD, AOp.isH, preB, astep, stV, stN, stE, stC, aval, anew, aElems, frzS, frzH, aeff, slots, aret, ares, aress, AV.isTup, ofC_i, ofC_b, ofC_s, ofC_U, getD_mapU, getD_Bs, Bs_len, Int.toNat_natCast, opd, pt, tk, subp, rdP, Rt.size, Rt.isAgg, Rt.zv, aBin, aInt, aStr, arI, aUn, aToInt, aToStr, aIdxS, zv, aIdxA, aIa, aIaA, aFa, aLd, aFld, pparts, aLo, aHi, cutL, aSlS, aSl, aExt, aNck, AV.isStr, aLen, AV.one, AV.multi, pureB, szOk, psz, drp, spl, aEqB, aEqA, aMm, aMkfn, aMkif, aBuild, toV, aBuildA, wrP, unparts, view, nilS, St.ev, lk, St.put, St.pin, acall0, acall1, acall2, acall3, bor, bor0, bor1, phiL_nil, phiL_at, tau, lentO, okIds, flatC, flatB, flatOs, flatO, place, setAll_nil, setAll_cons, nodupB, renObj, closeIds, addNew, idsOf, idsObj, posOf, reduceIte, Option.isSome_none, Option.isSome_some, Bool.or_true, Bool.true_or,  Nat.reduceEqDiff, Nat.reduceBEq, Nat.reduceSub, Nat.reduceLT, beq_self_eq_true, List.map, List.set, List.map_cons, List.map_nil, List.flatMap_cons, List.flatMap_nil, List.flatten_cons, List.flatten_nil, true_and, and_true, List.length_cons, List.length_nil, Nat.reduceAdd, Nat.reduceLeDiff, List.nil_append, List.cons_append, List.append_nil, Option.map, mapO, ren, kp, kpI, ent, nilG, Option.bind, List.range, List.range.loop, List.getElem?_cons_zero, List.getElem?_cons_succ, List.getElem?_nil, List.getD_cons_zero, List.getD_cons_succ, List.drop_zero, List.drop_succ_cons, List.drop_nil, List.take_zero, List.take_succ_cons, List.all_cons, List.all_nil, List.isEmpty_nil, List.isEmpty_cons, Bool.and_true, Bool.true_and, Bool.not_true, Bool.not_false, List.contains_nil, reduceCtorEq, List.contains_cons, Bool.or_false, Bool.false_or, eq_self, forall_const, false_implies, Bool.false_eq_true, Nat.le_refl, List.length_map, List.length_set, List.length_replicate, and_self, implies_true]
      refine ⟨by omega, by omega, sha_len _, ?_⟩
      simp only [decide_true, finP, finI, closeIds, addNew, idsOf, List.flatMap_nil, List.take_zero, nodupB, posOf, idsObj, List.getD_cons_zero, List.getD_cons_succ, List.range, List.range.loop, ren, lentO, mapO, Option.map, reduceIte, Nat.reduceEqDiff, true_and, and_true, List.getElem?_cons_zero, List.getElem?_cons_succ, Nat.reduceAdd, List.contains_nil, Bool.not_false, Bool.and_true, List.map_nil, List.map_cons, List.take_succ_cons]
  · cases hs
theorem shaLong_walk (w : World) {z0 z1 : Int} (q0 : (Lit.int .i64 z0).wf = true) (q1 : (Lit.int .u8 z1).wf = true) :
    Calls Try.prog 5 #[.int .i64 z0, .int .u8 z1] w fun e w' => e = .returned (.bool true) ∧ Below w.heap.size w w' :=
  shaLong_ok.calls_bool (xs := [.int .i64 z0, .int .u8 z1]) rfl (by simp [Lit.wf, IntKind.min, IntKind.max, IntKind.bits, IntKind.signed] at q1; exact ⟨by omega, by omega⟩) rfl (args_cons (Vl.int' _ _) (args_cons (Vl.int' _ _) args_nil))
end Go.Proofs.Ytbefhofmbiedgaa
