import Derived.Test.YtlkaaoekbmegkaaGreatDoorChecked
import Derived.Test.YtlkaaoekbmegkaaGreatDoorQHex
import Derived.Test.YtlkaaoekbmegkaaGreatDoorQAMS
import Derived.Test.YtlkaaoekbmegkaaGreatDoorQRunes
import Derived.Test.YtlkaaoekbmegkaaGreatDoorQMem
import Derived.Test.YtlkaaoekbmegkaaGreatDoorQComCode
namespace Go.Proofs.YtlkaaoekbmegkaaGreatDoor
set_option linter.all false
open Go.RowKit
def c_right : ACode := (.seq (.reg none [⟨(some 2), (.mv (.c (.bool false))), none⟩]) (.seq (.reg none [⟨(some 3), (.mv (.t 0)), none⟩, ⟨(some 4), (.bin .geq (.t 3) (.c (.int .i64 0))), none⟩, ⟨(some 5), (.mv (.t 4)), none⟩, ⟨(some 6), (.mv (.t 0)), (some (5, true))⟩, ⟨(some 7), (.bin .lss (.t 6) (.c (.int .i64 4611686018427387904))), (some (5, true))⟩, ⟨(some 8), (.pick (.t 5) (.t 7) (.c (.bool false))), none⟩, ⟨(some 2), (.mv (.t 8)), none⟩]) .ret))
def r_right : List ARes := [(.t 2)]
theorem s_right : slimF Tryz.prog Tryz.f71 = some (c_right, r_right) := by kernel_rfl
theorem okN_ex : ∃ f : Int → Bool, ∀ n, f n = decide (0 ≤ n ∧ n < 4611686018427387904) := ⟨fun n => decide (0 ≤ n ∧ n < 4611686018427387904), fun _ => rfl⟩
noncomputable def okN : Int → Bool := Classical.choose okN_ex
theorem okN_eq (n : Int) : okN n = decide (0 ≤ n ∧ n < 4611686018427387904) := Classical.choose_spec okN_ex n
theorem okN_t {n : Int} (h : okN n = true) : 0 ≤ n ∧ n < 4611686018427387904 := of_decide_eq_true (by rw [← okN_eq]; exact h)
theorem okN_mk {n : Int} (h : 0 ≤ n) (h' : n < 4611686018427387904) : okN n = true := by rw [okN_eq]; exact decide_eq_true ⟨h, h'⟩
theorem okN_no {n : Int} (h : n < 0 ∨ 4611686018427387904 ≤ n) : okN n = false := by rw [okN_eq]; exact decide_eq_false (by omega)
noncomputable def rightS : Spec := fun xs hp => match xs, hp with
  | [.int .i64 n], [] => some ⟨.bool (okN n), [], True⟩
  | _, _ => none
theorem right_ok : FnOk Tryz.prog 71 rightS := by
  refine fn_slim Tryz.func71 s_right (Φ := phiL []) phi_nil ?_
  intro xs hp r hs hp'
  unfold rightS at hs
  split at hs
  · injection hs with hs; subst hs
    rename_i n
    refine ⟨len_le (by kernel_rfl), ?_⟩
    simp only [c_right, r_right, awp_scope, noG_n, noG_r, noG_x, awp_skip, awp_reg, awp_draw, awp_seq, awp_cond, awp_block, awp_loop, awp_exit, awp_ret, arun_nil, arun_op, arun_gt, arun_gf, arunD_nil, arunD_op, arunD_gt, arunD_gf, aq_some, isB_t, isB_u, isB_f, isB_g, isB_p, isU_t, isU_b, ifB_t, ifB_f, thenQ_n, thenQ_x, thenQ_r, inQ_n, inQ_r, inQ_x, retQ_n, retQ_r, exD, AOp.isH, keepN, preB, avalP, pureR, astep, stV, stN, stE, stC, aval, anew, aElems, frzS, frzH, aeff, slots, aret, ares, aress, AV.isTup, eqFs, aEqS, ofC_i, ofC_b, ofC_s, ofC_U, getD_mapU, getD_Bs, Bs_len, Int.toNat_natCast, opd, pt, tk, subp, rdP, Rt.size, Rt.isAgg, Rt.zv, aBin, aInt, aStr, arI, aUn, aToInt, aToStr, aIdxS, zv, aIdxA, aIa, aIaA, aFa, aLd, aFld, pparts, aLo, aHi, cutL, aSlS, aSl, aExt, aNck, aNilc, AV.isStr, aLen, AV.one, AV.multi, pureB, szOk, psz, drp, spl, aEqB, aEqA, aMm, aMkfn, aMkif, aBuild, toV, aBuildA, wrP, unparts, view, nilS, St.ev, lk, St.put, St.pin, St.pinV, acall0, acall1, acall2, acall3, bor, bor0, bor1, phiL_nil, phiL_at, tau, lentO, okIds, flatC, flatB, flatOs, flatO, flatPs, place, setAll_nil, setAll_cons, nodupB, renObj, closeIds, addNew, idsOf, idsObj, posOf, lenOk_0, lenOk_1, lenOk_2, lenOk_3, lenOk_4, lenOk_8, ↓reduceIte, Option.isSome_none, Option.isSome_some, Bool.or_true, Bool.true_or,  Nat.reduceEqDiff, Nat.reduceBEq, Nat.reduceSub, Nat.reduceLT, beq_self_eq_true, List.map, List.set, List.map_cons, List.map_nil, List.flatMap_cons, List.flatMap_nil, List.flatten_cons, List.flatten_nil, true_and, and_true, List.length_cons, List.length_nil, Nat.reduceAdd, Nat.reduceLeDiff, List.nil_append, List.cons_append, List.append_nil, Option.map, mapO, ren, kp, kpI, ent, nilG, Option.bind, List.range, List.range.loop, List.getElem?_cons_zero, List.getElem?_cons_succ, List.getElem?_nil, List.getD_cons_zero, List.getD_cons_succ, List.drop_zero, List.drop_succ_cons, List.drop_nil, List.take_zero, List.take_succ_cons, List.all_cons, List.all_nil, List.isEmpty_nil, List.isEmpty_cons, Bool.and_true, Bool.true_and, Bool.not_true, Bool.not_false, List.contains_nil, reduceCtorEq, List.contains_cons, Bool.or_false, Bool.false_or, eq_self, forall_const, false_implies, Bool.false_eq_true, Nat.le_refl, List.length_map, List.length_set, List.length_replicate, and_self, implies_true]
    refine ⟨fun h => ?_, fun h => ?_⟩
    · have h1 := of_decide_eq_true h
      simp only [h, Bool.false_eq_true, renObj, finP, finI, closeIds, addNew, idsOf, List.flatMap_nil, List.flatMap_cons, List.append_nil, List.nil_append, List.take_zero, nodupB, posOf, idsObj, List.getD_cons_zero, List.getD_cons_succ, List.range, List.range.loop, ren, lentO, mapO, Option.map, ↓reduceIte, Nat.reduceEqDiff, true_and, and_true, List.getElem?_cons_zero, List.getElem?_cons_succ, Nat.reduceAdd, List.contains_nil, Bool.not_false, Bool.and_true, List.map_nil, List.map_cons, List.take_succ_cons]
      have : okN n = decide (n < 4611686018427387904) := by rw [okN_eq]; simp [h1]
      rw [this]
    · have h1 := of_decide_eq_false h
      simp only [h, Bool.false_eq_true, renObj, finP, finI, closeIds, addNew, idsOf, List.flatMap_nil, List.flatMap_cons, List.append_nil, List.nil_append, List.take_zero, nodupB, posOf, idsObj, List.getD_cons_zero, List.getD_cons_succ, List.range, List.range.loop, ren, lentO, mapO, Option.map, ↓reduceIte, Nat.reduceEqDiff, true_and, and_true, List.getElem?_cons_zero, List.getElem?_cons_succ, Nat.reduceAdd, List.contains_nil, Bool.not_false, Bool.and_true, List.map_nil, List.map_cons, List.take_succ_cons]
      have : okN n = false := okN_no (by omega)
      rw [this]
  · cases hs
end Go.Proofs.YtlkaaoekbmegkaaGreatDoor
namespace Go.Proofs.YtlkaaoekbmegkaaGreatDoor
set_option linter.all false
open Go.RowKit
open Go.Lib (decDigits itoa atoiAll)
noncomputable def decB : List UInt8 → Bool := sealF fun s => (decV s).isSome
noncomputable def decN : List UInt8 → Nat := sealF fun s => (decV s).getD 0
theorem decBN_some {s : List UInt8} {n : Nat} (h : decV s = some n) : decB s = true ∧ decN s = n := by
  unfold decB decN; rw [sealF_eq, sealF_eq]; simp only [h]; exact ⟨rfl, rfl⟩
theorem decB_none {s : List UInt8} (h : decV s = none) : decB s = false := by
  unfold decB; rw [sealF_eq]; simp only [h]; rfl
theorem decB_f {s : List UInt8} (h : decB s = false) : decV s = none := by
  cases h' : decV s with
  | none => rfl
  | some n => rw [(decBN_some h').1] at h; cases h
theorem decB_t {s : List UInt8} (h : decB s = true) : decV s = some (decN s) := by
  cases h' : decV s with
  | none => rw [decB_none h'] at h; cases h
  | some n => rw [(decBN_some h').2]
theorem decB_no {s : List UInt8} (h : ∀ v, atoiAll s ≠ .ok v) : decB s = false := by
  apply decB_none; unfold decV; split
  · rename_i v e; exact absurd e (h v)
  · rfl
theorem decB_ok1 {s : List UInt8} {v : Int} (h : atoiAll s = .ok v) (h0 : okN v = true) (h1 : itoa v = s) : decB s = true ∧ (decN s : Int) = v := by
  obtain ⟨k1, k2⟩ := okN_t h0
  have e : decV s = some v.toNat := by unfold decV; rw [h]; exact if_pos ⟨k1, k2, h1⟩
  obtain ⟨a, b⟩ := decBN_some e
  exact ⟨a, by omega⟩
theorem decB_ok0 {s : List UInt8} {v : Int} (h : atoiAll s = .ok v) (h1 : okN v = false ∨ itoa v ≠ s) : decB s = false := by
  apply decB_none; unfold decV; rw [h]
  refine if_neg ?_
  rintro ⟨a, b, c⟩
  rcases h1 with h1 | h1
  · rw [okN_mk a b] at h1; cases h1
  · exact h1 c
def c_fdec : ACode := (.seq (.reg none [⟨(some 2), (.mv (.c (.int .i64 0))), none⟩, ⟨(some 3), (.mv (.c (.int .i64 0))), none⟩]) (.seq (.reg none [⟨(some 7), (.mv (.t 0)), none⟩, ⟨(some 8), (.call 70 [(.t 7)]), none⟩, ⟨(some 6), (.mv (.t 8)), none⟩, ⟨(some 9), (.ext (.t 6) 0), none⟩, ⟨(some 10), (.ext (.t 6) 1), none⟩, ⟨(some 4), (.mv (.t 9)), none⟩, ⟨(some 5), (.mv (.t 10)), none⟩]) (.seq (.seq (.reg none [⟨(some 11), (.mv (.t 5)), none⟩, ⟨(some 12), (.nilc 0 true (.t 11)), none⟩, ⟨(some 13), (.mv (.t 12)), none⟩, ⟨(some 14), (.mv (.t 4)), (some (13, false))⟩, ⟨(some 15), (.call 71 [(.t 14)]), (some (13, false))⟩, ⟨(some 16), (.un .not (.t 15)), (some (13, false))⟩, ⟨(some 17), (.pick (.t 13) (.c (.bool true)) (.t 16)), none⟩, ⟨(some 18), (.mv (.t 17)), none⟩, ⟨(some 19), (.mv (.t 4)), (some (18, false))⟩, ⟨(some 20), (.call 68 [(.t 19)]), (some (18, false))⟩, ⟨(some 21), (.mv (.t 0)), (some (18, false))⟩, ⟨(some 22), (.bin .neq (.t 20) (.t 21)), (some (18, false))⟩, ⟨(some 23), (.pick (.t 18) (.c (.bool true)) (.t 22)), none⟩]) (.cond (.t 23) (.seq (.reg none [⟨(some 2), (.mv (.c (.int .i64 0))), none⟩, ⟨(some 3), (.mv (.c (.int .i64 4))), none⟩]) .ret) .skip)) (.seq (.reg none [⟨(some 24), (.mv (.t 4)), none⟩, ⟨(some 2), (.mv (.t 24)), none⟩, ⟨(some 3), (.mv (.c (.int .i64 0))), none⟩]) .ret))))
def r_fdec : List ARes := [(.t 2), (.t 3)]
theorem s_fdec : slimF Tryz.prog Tryz.f45 = some (c_fdec, r_fdec) := by kernel_rfl
noncomputable def fdecS : Spec := fun xs hp => match xs, hp with
  | [.str s], [] => if decB s = true then some ⟨.tup [.int .i64 (decN s : Int), .int .i64 0], [], s.length ≤ 281474976710656⟩ else some ⟨.tup [.int .i64 0, .int .i64 4], [], s.length ≤ 281474976710656⟩
  | _, _ => none
theorem fdec_ok : FnOk Tryz.prog 45 fdecS := by
  refine fn_slim2 Tryz.func45 s_fdec (Φ := phiL [(70, [], atoiS), (71, [], rightS), (68, [], itoaS)]) (phi_cons atoi_ok (by kernel_rfl) (phi_cons right_ok (by kernel_rfl) (phi_cons itoa_ok (by kernel_rfl) phi_nil))) ?_
  intro xs hp r hs hp'
  unfold fdecS at hs
  split at hs
  · rename_i s
    refine ⟨len_le (by kernel_rfl), ?_⟩
    rcases h : atoiAll s with v | _ | _
    · cases ho : okN v with
      | true =>
        obtain ⟨k1, k2⟩ := okN_t ho
        have hin : inI v := by (first | omega | (simp only [lenOk, bytesOk, inI, IntKind.bits, List.length_append, Bs_len, List.length_cons, List.length_nil, List.length_map, List.length_take, List.length_drop, List.length_replicate]; omega))
        by_cases hi : itoa v = s
        · obtain ⟨e1, e2⟩ := decB_ok1 h ho hi
          rw [if_pos e1] at hs; injection hs with hs; subst hs
          have d1 : decide (itoa v = s) = true := decide_eq_true hi
          simp only [c_fdec, r_fdec, atoiS, rightS, itoaS, atoiR, h, ho, e2, d1, go_sem, Nat.reduceDiv, Nat.reduceMod, ↓reduceIte, Nat.reduceEqDiff, Nat.reduceBEq, Nat.reduceSub, Nat.reduceLT, Nat.reduceAdd, Nat.reduceLeDiff, reduceCtorEq, Int.reduceEq, Int.reduceNe, Int.reduceLT, Int.reduceLE, Int.reduceToNat]
          exact ⟨hp', hin⟩
        · have e1 := decB_ok0 h (.inr hi)
          rw [if_neg (by rw [e1]; simp)] at hs; injection hs with hs; subst hs
          have d1 : decide (itoa v = s) = false := decide_eq_false hi
          simp only [c_fdec, r_fdec, atoiS, rightS, itoaS, atoiR, h, ho, d1, go_sem, Nat.reduceDiv, Nat.reduceMod, ↓reduceIte, Nat.reduceEqDiff, Nat.reduceBEq, Nat.reduceSub, Nat.reduceLT, Nat.reduceAdd, Nat.reduceLeDiff, reduceCtorEq, Int.reduceEq, Int.reduceNe, Int.reduceLT, Int.reduceLE, Int.reduceToNat]
          exact ⟨hp', hin⟩
      | false =>
        have e1 := decB_ok0 h (.inl ho)
        rw [if_neg (by rw [e1]; simp)] at hs; injection hs with hs; subst hs
        simp only [c_fdec, r_fdec, atoiS, rightS, itoaS, atoiR, h, ho, go_sem, Nat.reduceDiv, Nat.reduceMod, ↓reduceIte, Nat.reduceEqDiff, Nat.reduceBEq, Nat.reduceSub, Nat.reduceLT, Nat.reduceAdd, Nat.reduceLeDiff, reduceCtorEq, Int.reduceEq, Int.reduceNe, Int.reduceLT, Int.reduceLE, Int.reduceToNat]
        exact hp'
    · have e1 := decB_no (s := s) (by intro v; rw [h]; simp)
      rw [if_neg (by rw [e1]; simp)] at hs; injection hs with hs; subst hs
      simp only [c_fdec, r_fdec, atoiS, rightS, itoaS, atoiR, h, go_sem, Nat.reduceDiv, Nat.reduceMod, ↓reduceIte, Nat.reduceEqDiff, Nat.reduceBEq, Nat.reduceSub, Nat.reduceLT, Nat.reduceAdd, Nat.reduceLeDiff, reduceCtorEq, Int.reduceEq, Int.reduceNe, Int.reduceLT, Int.reduceLE, Int.reduceToNat]
      exact hp'
    · have e1 := decB_no (s := s) (by intro v; rw [h]; simp)
      rw [if_neg (by rw [e1]; simp)] at hs; injection hs with hs; subst hs
      simp only [c_fdec, r_fdec, atoiS, rightS, itoaS, atoiR, h, go_sem, Nat.reduceDiv, Nat.reduceMod, ↓reduceIte, Nat.reduceEqDiff, Nat.reduceBEq, Nat.reduceSub, Nat.reduceLT, Nat.reduceAdd, Nat.reduceLeDiff, reduceCtorEq, Int.reduceEq, Int.reduceNe, Int.reduceLT, Int.reduceLE, Int.reduceToNat]
      exact hp'
  · cases hs
end Go.Proofs.YtlkaaoekbmegkaaGreatDoor
namespace Go.Proofs.YtlkaaoekbmegkaaGreatDoor
set_option linter.all false
def dv (c : UInt8) : Int := Lib.indexByte digs c
theorem indexB_lt (c : UInt8) : ∀ l : List UInt8, l ≠ [] → Lib.indexByte l c < (l.length : Int)
  | [], h => absurd rfl h
  | b :: l, _ => by
    unfold Lib.indexByte
    split
    · simp only [List.length_cons]; omega
    · split
      · simp only [List.length_cons]; omega
      · rename_i h1 h2
        cases l with
        | nil => simp [Lib.indexByte] at h2
        | cons b2 l2 => have := indexB_lt c (b2 :: l2) (by simp); simp at this ⊢; omega
theorem dv_lt (c : UInt8) : dv c < 16 := indexB_lt c digs (by simp [digs])
def outN (l : List UInt8) (i j : Nat) : Nat := if 2 * j + 1 < i then 16 * (dv (l.getD (2 * j) 0)).toNat + (dv (l.getD (2 * j + 1) 0)).toNat else if 2 * j < i then (dv (l.getD (2 * j) 0)).toNat else 0
theorem outN_lt (l : List UInt8) (i j : Nat) : outN l i j < 256 := by
  have h1 := dv_lt (l.getD (2 * j) 0)
  have h2 := dv_lt (l.getD (2 * j + 1) 0)
  unfold outN; split
  · omega
  · split <;> omega
def outC (l : List UInt8) (i : Nat) : Array Value := ((List.range 20).map fun j => Value.int .u8 (outN l i j : Int)).toArray
def outL (l : List UInt8) (i : Nat) : List UInt8 := (List.range 20).map fun j => UInt8.ofNat (outN l i j)
theorem outC_U (l : List UInt8) (i : Nat) : outC l i = ((outL l i).map U).toArray := by
  unfold outC outL U
  rw [List.map_map]
  congr 1
  apply List.map_congr_left
  intro j _
  have := outN_lt l i j
  simp [Nat.mod_eq_of_lt this]
theorem outC_size (l : List UInt8) (i : Nat) : (outC l i).size = 20 := by simp [outC]
theorem outC_at (l : List UInt8) (i j : Nat) (h : j < 20) : (outC l i)[j]? = some (.int .u8 (outN l i j : Int)) := by
  simp [outC, List.getElem?_range, h]
theorem outC_zero (l : List UInt8) : outC l 0 = (List.replicate 20 (Value.int .u8 0)).toArray := by
  unfold outC outN
  simp
  rfl
theorem outN_other (l : List UInt8) (i j : Nat) (h : j ≠ i / 2) : outN l (i + 1) j = outN l i j := by
  unfold outN
  by_cases h1 : 2 * j + 1 < i
  · rw [if_pos h1, if_pos (by omega)]
  · rw [if_neg h1, if_neg (by omega)]
    by_cases h2 : 2 * j < i
    · rw [if_pos h2, if_pos (by omega)]
    · rw [if_neg h2, if_neg (by omega)]
theorem outC_step (l : List UInt8) (i : Nat) (E : Int) (hE : E = (outN l (i + 1) (i / 2) : Int)) : (outC l i).setIfInBounds (i / 2) (.int .u8 E) = outC l (i + 1) := by
  apply Array.ext
  · rw [Array.size_setIfInBounds, outC_size, outC_size]
  · intro j h1 h2
    rw [outC_size] at h2
    rw [Array.size_setIfInBounds] at h1
    have e2 := outC_at l (i + 1) j h2
    have e1 := outC_at l i j h2
    rw [Array.getElem?_eq_getElem (by rw [outC_size]; exact h2), Option.some.injEq] at e1 e2
    rw [e2, Array.getElem_setIfInBounds h1]
    by_cases hj : i / 2 = j
    · rw [if_pos hj, hE, hj]
    · rw [if_neg hj, e1, outN_other l i j (fun h => hj h.symm)]
theorem outN_even (l : List UInt8) (i : Nat) (h : i % 2 = 0) : outN l i (i / 2) = 0 ∧ outN l (i + 1) (i / 2) = (dv (l.getD i 0)).toNat := by
  have e : 2 * (i / 2) = i := by omega
  unfold outN
  rw [e]
  exact ⟨by rw [if_neg (by omega), if_neg (by omega)], by rw [if_neg (by omega), if_pos (by omega)]⟩
theorem outN_odd (l : List UInt8) (i : Nat) (h : i % 2 = 1) : outN l i (i / 2) < 16 ∧ outN l (i + 1) (i / 2) = 16 * outN l i (i / 2) + (dv (l.getD i 0)).toNat := by
  have e : 2 * (i / 2) + 1 = i := by omega
  have h1 := dv_lt (l.getD (2 * (i / 2)) 0)
  unfold outN
  rw [e]
  rw [if_neg (show ¬ i < i by omega), if_pos (show 2 * (i / 2) < i by omega), if_pos (show i < i + 1 by omega)]
  exact ⟨by omega, rfl⟩
attribute [irreducible] dv outN outC outL
end Go.Proofs.YtlkaaoekbmegkaaGreatDoor
namespace Go.Proofs.YtlkaaoekbmegkaaGreatDoor
set_option linter.all false
open Go.RowKit
theorem idx_dv (c : UInt8) (w : World) : Calls Tryz.prog 88 #[.string ⟨#[48, 49, 50, 51, 52, 53, 54, 55, 56, 57, 97, 98, 99, 100, 101, 102]⟩, .int .u8 (c.toNat : Int)] w fun e w' => e = .returned (.int .i64 (dv c)) ∧ w' = w := by
  have h := Tryz.strings_IndexByte ⟨#[48, 49, 50, 51, 52, 53, 54, 55, 56, 57, 97, 98, 99, 100, 101, 102]⟩ (c.toNat : Int) w
  have e : (c.toNat : Int).toNat.toUInt8 = c := by simp
  rw [e] at h
  have e2 : dv c = Lib.indexByte ((⟨#[48, 49, 50, 51, 52, 53, 54, 55, 56, 57, 97, 98, 99, 100, 101, 102]⟩ : ByteArray).data.toList) c := by unfold dv; rfl
  rw [e2]; exact h
theorem index_str (l : List UInt8) (k : Nat) (hk : k < l.length) (w : World) : (Instr.index 9 (.string ⟨l.toArray⟩) (.int .i64 (k : Int))).run Tryz.prog w = .ok (.int .u8 ((l.getD k 0).toNat : Int)) w := by
  have e : (⟨l.toArray⟩ : ByteArray).size = l.length := rfl
  rw [run_index_string _ _ _ _ _ Tryz.underlying9, dif_pos ⟨by omega, by rw [e]; omega⟩]
  have e2 : (⟨l.toArray⟩ : ByteArray)[(k : Int).toNat]'(by rw [e]; omega) = l.getD k 0 := by
    simp only [Int.toNat_natCast]
    rw [List.getD_eq_getElem?_getD, List.getElem?_eq_getElem hk]
    rfl
  rw [e2]
theorem results_row_tmp {P : Program} {fn : Func} {p u : Tmp} {ty : TypeId} (h : fn.results = #[.cell p ty, .tmp u]) (tmps : Array Value) (w : World) (g : Nat) (t : TypeId) (cs : Array Value) (fr : Nat × Nat) (d : TypeDesc)
    (hp : tmps.getD p undef = .pointer (some ⟨g, 0, none⟩)) (hg : w.heap[g]? = some (.cells cs t fr))
    (hu : P.underlying ty = some d) (hd : (match d with | .struct _ | .array _ _ => true | _ => false) = true) (hi : (P.info? ty).map (·.size) = some cs.size) :
    (results fn tmps).run P w = .ok (.tuple #[.agg cs, tmps.getD u undef]) w := by
  rw [results_cell_tmp h, hp]
  simp [asAddr, run_loadVar_row w g t ty cs fr d hg hu hd hi]
theorem or_digF : ∀ d v : Fin 16, d.1 * 16 ||| v.1 = d.1 * 16 + v.1 := by decide +kernel
theorem or_dig (d v : Nat) (hd : d < 16) (hv : v < 16) : bits .or .u8 ((d : Int) * 16 % 256) (v : Int) = ((d * 16 + v : Nat) : Int) := by
  rw [show (d : Int) * 16 % 256 = ((d * 16 : Nat) : Int) by omega, u8_or_nat _ _ (by omega) (by omega), or_digF ⟨d, hd⟩ ⟨v, hv⟩]
theorem U_all (l : List UInt8) : ((l.map U).toArray).all (·.oneCell') = true := by
  simp [U, Value.oneCell']
theorem z20_size : z20.size = 20 := by unfold z20; simp
theorem z20_one : z20.all (·.oneCell') = true := by unfold z20; simp [Value.oneCell']
set_option maxHeartbeats 2000000 in
set_option maxRecDepth 100000 in
theorem shaParse (l : List UInt8) (w : World) (hl : l.length ≤ 1000000000) :
    Calls Tryz.prog 72 #[.string ⟨l.toArray⟩] w fun e w' => e = .returned (.tuple (if l.length = 40 ∧ ∀ c ∈ l, 0 ≤ dv c then #[.agg (outC l 40), .int .i64 0] else #[.agg z20, .int .i64 4])) ∧ Below w.heap.size w w' := by
  obtain ⟨R, hR⟩ : ∃ R, R = Value.tuple (if l.length = 40 ∧ ∀ c ∈ l, 0 ≤ dv c then #[.agg (outC l 40), .int .i64 0] else #[.agg z20, .int .i64 4]) := ⟨_, rfl⟩
  rw [← hR]
  have HR := hide hR
  clear hR
  have hz := zero20
  have hzs := z20_size
  have hS := ((Sep.start w).allocC z20 29).allocC z20 29
  rw [World.size_alloc] at hS
  simp only [List.cons_append, List.nil_append, List.set_cons_zero, List.set_cons_succ, List.map_cons, List.map_nil, List.getD_cons_zero, List.getD_cons_succ, Array.toList] at hS
  have hlc : (⟨l.toArray⟩ : ByteArray).size = l.length := rfl
  go_enter Tryz.func72, Tryz.ntmps72
  by_cases h40 : l.length = 40
  · go_wp2
    have hzc : z20 = outC l 0 := by rw [outC_zero]; rfl
    have hS2 : Sep w.heap.size w ((w.alloc (.cells z20 29)).alloc (.cells z20 29)) [.blk w.heap.size 29 z20, .blk (w.heap.size + 1) 29 (outC l 0)] := by rw [← hzc]; exact hS
    clear hS hzc
    go_loopw [13] (fun i wr => ∃ k : Nat, k ≤ 40 ∧ i = .int .i64 k ∧ (∀ c ∈ l.take k, 0 ≤ dv c) ∧ Sep w.heap.size w wr [.blk w.heap.size 29 z20, .blk (w.heap.size + 1) 29 (outC l k)])
      (fun i _ => 40 - (intOf i).toNat)
    case atStart => exact ⟨0, by omega, rfl, (fun c hc => by simp at hc), hS2⟩
    case round =>
      clear hS2
      obtain ⟨k, hk, rfl, hval, hS⟩ := hrel
      by_cases hlt : k < 40
      · have hlt' : (k : Int) < (l.length : Int) := by omega
        have hx := index_str l k (by omega)
        have hmem : l.getD k 0 ∈ l := by
          rw [List.getD_eq_getElem?_getD, List.getElem?_eq_getElem (by omega)]; exact List.getElem_mem _
        have htk : l.take (k + 1) = l.take k ++ [l.getD k 0] := by
          rw [List.take_succ, List.getElem?_eq_getElem (by omega), List.getD_eq_getElem?_getD, List.getElem?_eq_getElem (by omega)]; rfl
        have hE := outN_even l k
        have hO := outN_odd l k
        have hstep := outC_step l k
        obtain ⟨c, hc⟩ : ∃ c, l.getD k 0 = c := ⟨_, rfl⟩
        rw [hc] at hx hmem htk hE hO
        have hvl := dv_lt c
        go_wp2_with (at_builtin; refine stopAt ?_)
        refine (idx_dv c wr).mono ?_
        rintro e w2 ⟨rfl, rfl⟩
        by_cases hv : dv c < 0
        · have hno : ¬ (l.length = 40 ∧ ∀ c ∈ l, 0 ≤ dv c) := fun h => by have := h.2 c hmem; omega
          have Hno := hide hno
          clear hno hE hO hstep hval htk hmem
          go_wp2_with (with_reducible refine wpList_stopStore (ty := 29) (x := .tmp 2) (y := .tmp 22) rfl ?_)
          refine unstop (wpList_store_rowS hS 0 rfl rfl 29 (.tmp 2) (.tmp 22) rfl rfl rfl (by rw [hzs]; exact info20) rfl z20_one ?_)
          clear hS
          intro w2 hS
          simp only [List.cons_append, List.nil_append, List.set_cons_zero, List.set_cons_succ, List.map_cons, List.map_nil, List.getD_cons_zero, List.getD_cons_succ, Array.toList] at hS
          have hb0 := hS.blk 0 rfl
          have hbl := hS.below
          go_wp2
          refine ⟨by simp, _, ?_, (by rw [HR.out, if_neg Hno.out]), hbl⟩
          refine results_row_tmp (p := 2) (u := 3) rfl _ w2 w.heap.size 29 _ (0, 0) _ ?_ hb0 Tryz.underlying29 rfl (by rw [hzs]; exact info20)
          rfl
        · obtain ⟨v, hv2⟩ : ∃ v : Nat, dv c = v := ⟨(dv c).toNat, by omega⟩
          have hv16 : v < 16 := by omega
          have hv0 : ¬ (v : Int) < 0 := by omega
          rw [hv2]
          have g1 : w2.cell? ⟨w.heap.size + 1, k / 2, none⟩ = some (.int .u8 (outN l k (k / 2) : Int)) := hS.cell 1 (k / 2) rfl (outC_at l k (k / 2) (by omega))
          have f1 := hS.frozen 1 (k / 2) rfl
          have hE2 : bits .or .u8 ((outN l k (k / 2) : Int) * 16 % 256) (v : Int) = (outN l (k + 1) (k / 2) : Int) := by
            rcases Nat.mod_two_eq_zero_or_one k with h2 | h2
            · obtain ⟨a1, a2⟩ := hE h2
              have h3 := or_dig 0 v (by omega) hv16
              rw [Nat.zero_mul, Nat.zero_add] at h3
              rw [a1, a2, hv2, Int.toNat_natCast]
              exact h3
            · obtain ⟨a1, a2⟩ := hO h2
              rw [a2, hv2, or_dig _ v a1 hv16]
              simp; omega
          replace hE2 := hide hE2
          have hst := hide (hstep _ hE2.out)
          clear hE hO hstep
          go_wp2
          go_roundw
          case rel =>
            refine ⟨k + 1, by omega, by simp, fun x hx => ?_, (hS.store 1 (j := k / 2) rfl _).cast ?_⟩
            · rw [htk, List.mem_append, List.mem_singleton] at hx
              rcases hx with hx | rfl
              · exact hval x hx
              · omega
            · simp only [List.set_cons_succ, List.set_cons_zero]
              rw [hst.out]
          case measure => simp [intOf]; omega
      · obtain rfl : k = 40 := by omega
        rw [List.take_of_length_le (by omega)] at hval
        have hyes := hide (show l.length = 40 ∧ ∀ c ∈ l, 0 ≤ dv c from ⟨h40, hval⟩)
        clear hval
        go_wp2_with (with_reducible refine wpList_stopLoad (ty := 29) (x := .tmp 4) rfl ?_)
        refine unstop (wpList_load_row rfl 29 (.tmp 4) rfl (w.heap.size + 1) rfl 29 (outC l 40) (0, 0) _ (hS.blk 1 rfl) Tryz.underlying29 rfl (by rw [outC_size]; exact info20) ?_)
        refine wpList_store_rowS hS 0 rfl rfl 29 (.tmp 2) (.tmp 35) rfl rfl rfl (by rw [outC_size]; exact info20) (by rw [outC_size, hzs]) (by rw [outC_U]; exact U_all _) ?_
        clear hS
        intro w2 hS
        simp only [List.cons_append, List.nil_append, List.set_cons_zero, List.set_cons_succ, List.map_cons, List.map_nil, List.getD_cons_zero, List.getD_cons_succ, Array.toList] at hS
        have hb0 := hS.blk 0 rfl
        have hbl := hS.below
        go_wp2
        refine ⟨by simp, _, ?_, (by rw [HR.out, if_pos hyes.out]), hbl⟩
        refine results_row_tmp (p := 2) (u := 3) rfl _ w2 w.heap.size 29 _ (0, 0) _ ?_ hb0 Tryz.underlying29 rfl (by rw [outC_size]; exact info20)
        rfl
  · have HR2 := hide (HR.out.trans (by rw [if_neg (fun h => h40 h.1)]))
    clear HR
    have hne : ((l.length : Int) != 40) = true := by rw [bne_iff_ne]; omega
    go_wp2_with (with_reducible refine wpList_stopStore (ty := 29) (x := .tmp 2) (y := .tmp 10) rfl ?_)
    refine unstop (wpList_store_rowS hS 0 rfl rfl 29 (.tmp 2) (.tmp 10) rfl rfl rfl (by rw [hzs]; exact info20) rfl z20_one ?_)
    clear hS
    intro w2 hS
    simp only [List.cons_append, List.nil_append, List.set_cons_zero, List.set_cons_succ, List.map_cons, List.map_nil, List.getD_cons_zero, List.getD_cons_succ, Array.toList] at hS
    have hb0 := hS.blk 0 rfl
    go_wp2
    have hbl := hS.below
    refine ⟨by simp, _, ?_, (by rw [HR2.out]), hbl⟩
    refine results_row_tmp (p := 2) (u := 3) rfl _ w2 w.heap.size 29 _ (0, 0) _ ?_ hb0 Tryz.underlying29 rfl (by rw [hzs]; exact info20)
    rfl
end Go.Proofs.YtlkaaoekbmegkaaGreatDoor
namespace Go.Proofs.YtlkaaoekbmegkaaGreatDoor
set_option linter.all false
open Go.RowKit
def goodQ (l : List UInt8) : Bool := decide (l.length = 40 ∧ ∀ c ∈ l, 0 ≤ dv c)
def pOut (l : List UInt8) : List UInt8 := if goodQ l = true then outL l 40 else List.replicate 20 0
def pErr (l : List UInt8) : Int := if goodQ l = true then 0 else 4
def parseS : Spec := fun xs hp => match xs, hp with
  | [.str l], [] => some ⟨.tup [.blob ((pOut l).map U), .int .i64 (pErr l)], [], l.length ≤ 1000000000⟩
  | _, _ => none
theorem parse_ok : FnOk Tryz.prog 72 parseS := by
  refine fnok_of_calls fun xs0 hp r hs hp' => ?_
  unfold parseS at hs
  split at hs
  · rename_i l
    injection hs with hs; subst hs
    refine ⟨rfl, rfl, fun w S ρ args hS ha => ?_⟩
    obtain ⟨v, vs, rfl, hv, hr⟩ := ha.get _ _ rfl
    obtain rfl := hr.none
    rw [hv.str]
    refine (shaParse l w hp').mono ?_
    rintro e w' ⟨rfl, hb⟩
    refine ⟨_, rfl, hb, fun w' S ρ => ?_⟩
    have hz : (List.replicate 20 (0 : UInt8)).map U = List.replicate 20 (.int .u8 0) := rfl
    unfold pOut pErr
    by_cases hg : l.length = 40 ∧ ∀ c ∈ l, 0 ≤ dv c
    · have hg' : goodQ l = true := decide_eq_true hg
      rw [if_pos hg, if_pos hg', if_pos hg', outC_U]
      exact ⟨[_, _], rfl, rfl, fun i hi => by
        match i, hi with
        | 0, _ => exact blob_U _ _ _ _
        | 1, _ => exact Vl.int' _ _⟩
    · have hg' : ¬ goodQ l = true := by unfold goodQ; simpa using hg
      rw [if_neg hg, if_neg hg', if_neg hg', hz]
      exact ⟨[_, _], rfl, rfl, fun i hi => by
        match i, hi with
        | 0, _ => exact Vl.blob' (List.replicate 20 (.int .u8 0)) (by simp [Value.oneCell'])
        | 1, _ => exact Vl.int' _ _⟩
  · cases hs
end Go.Proofs.YtlkaaoekbmegkaaGreatDoor
namespace Go.Proofs.YtlkaaoekbmegkaaGreatDoor
set_option linter.all false
open Go.RowKit
open Go.Lib (index hasPrefix trimPrefix cut indexAny)
def hasPreS : Spec := fun xs hp => match xs, hp with
  | [.str s, .str p], [] => some ⟨.bool (hasPrefix s p), [], True⟩
  | _, _ => none
theorem hasPre_ok : FnOk Tryz.prog 50 hasPreS := by
  refine fnok_of_calls fun xs0 hp r hs hp' => ?_
  unfold hasPreS at hs
  split at hs
  · rename_i s p
    injection hs with hs; subst hs
    refine ⟨rfl, rfl, fun w S ρ args hS ha => ?_⟩
    obtain ⟨v, vs, rfl, hv, hr⟩ := ha.get _ _ rfl
    obtain ⟨u, us, rfl, hu, hr⟩ := hr.get _ _ rfl
    obtain rfl := hr.none
    rw [hv.str, hu.str]
    refine (Tryz.strings_HasPrefix ⟨s.toArray⟩ ⟨p.toArray⟩ w).mono ?_
    rintro e w' ⟨rfl, rfl⟩
    exact ⟨_, rfl, Below.refl _ _, fun _ _ _ => Vl.bool' _⟩
  · cases hs
end Go.Proofs.YtlkaaoekbmegkaaGreatDoor
namespace Go.Proofs.YtlkaaoekbmegkaaGreatDoor
set_option linter.all false
open Go.RowKit
def c_oword : ACode := (.seq (.reg none [⟨(some 2), (.mv (.c (.str []))), none⟩]) (.seq (.reg none [⟨(some 4), (.buildA [(.string ⟨#[]⟩), (.string ⟨#[]⟩), (.string ⟨#[]⟩), (.string ⟨#[]⟩), (.string ⟨#[]⟩)] [(0, (.c (.str []))), (1, (.c (.str [99, 111, 109, 109, 105, 116]))), (2, (.c (.str [116, 114, 101, 101]))), (3, (.c (.str [98, 108, 111, 98]))), (4, (.c (.str [116, 97, 103])))]), none⟩, ⟨(some 3), (.new 130 [(5, (.blob [(.string ⟨#[]⟩), (.string ⟨#[]⟩), (.string ⟨#[]⟩), (.string ⟨#[]⟩), (.string ⟨#[]⟩)]))]), none⟩, ⟨none, (.st (.arr 5) (.t 3) (.t 4)), none⟩]) (.seq (.seq (.reg none [⟨(some 5), (.mv (.t 0)), none⟩, ⟨(some 6), (.bin .lss (.t 5) (.c (.int .i64 1))), none⟩, ⟨(some 7), (.mv (.t 6)), none⟩, ⟨(some 8), (.mv (.t 0)), (some (7, false))⟩, ⟨(some 9), (.bin .gtr (.t 8) (.c (.int .i64 4))), (some (7, false))⟩, ⟨(some 10), (.pick (.t 7) (.c (.bool true)) (.t 9)), none⟩]) (.cond (.t 10) (.seq (.reg none [⟨(some 2), (.mv (.c (.str []))), none⟩]) .ret) .skip)) (.seq (.reg none [⟨(some 11), (.mv (.t 0)), none⟩, ⟨(some 12), (.iaA 5 (.t 3) (.t 11)), none⟩, ⟨(some 13), (.ld (.one (.str [])) (.t 12)), none⟩, ⟨(some 2), (.mv (.t 13)), none⟩]) .ret))))
def r_oword : List ARes := [(.t 2)]
theorem s_oword : slimF Tryz.prog Tryz.f58 = some (c_oword, r_oword) := by kernel_rfl
def wordL : Int → List UInt8
  | 1 => [99, 111, 109, 109, 105, 116]
  | 2 => [116, 114, 101, 101]
  | 3 => [98, 108, 111, 98]
  | 4 => [116, 97, 103]
  | _ => []
theorem wordL_out {k : Int} (h : k < 1 ∨ 4 < k) : wordL k = [] := by
  unfold wordL
  split <;> first | rfl | omega
def wordS : Spec := fun xs hp => match xs, hp with
  | [.int .i64 k], [] => some ⟨.str (wordL k), [], True⟩
  | _, _ => none
theorem oword_ok : FnOk Tryz.prog 58 wordS := by
  refine fn_slim2 Tryz.func58 s_oword (Φ := phiL []) phi_nil ?_
  intro xs hp r hs hp'
  unfold wordS at hs
  split at hs
  · injection hs with hs; subst hs
    rename_i k
    refine ⟨len_le (by kernel_rfl), ?_⟩
    have hcase : k < 1 ∨ 4 < k ∨ k = 1 ∨ k = 2 ∨ k = 3 ∨ k = 4 := by omega
    rcases hcase with h | h | rfl | rfl | rfl | rfl
    · rw [wordL_out (.inl h)]
      simp only [decide_eq_true h, c_oword, r_oword, wordL, Int.reduceLT, Int.reduceLE, Int.reduceToNat, List.getD_cons_zero, List.getD_cons_succ, ofC, decide_true, decide_false, go_sem, Nat.reduceDiv, Nat.reduceMod, ↓reduceIte, Nat.reduceEqDiff, Nat.reduceBEq, Nat.reduceSub, Nat.reduceLT, Nat.reduceAdd, Nat.reduceLeDiff, reduceCtorEq, Int.reduceEq, Int.reduceNe, Int.reduceLT, Int.reduceLE, Int.reduceToNat]
    · rw [wordL_out (.inr h)]
      have h1 : decide (k < 1) = false := decide_eq_false (by omega)
      simp only [decide_eq_true h, h1, c_oword, r_oword, wordL, Int.reduceLT, Int.reduceLE, Int.reduceToNat, List.getD_cons_zero, List.getD_cons_succ, ofC, decide_true, decide_false, go_sem, Nat.reduceDiv, Nat.reduceMod, ↓reduceIte, Nat.reduceEqDiff, Nat.reduceBEq, Nat.reduceSub, Nat.reduceLT, Nat.reduceAdd, Nat.reduceLeDiff, reduceCtorEq, Int.reduceEq, Int.reduceNe, Int.reduceLT, Int.reduceLE, Int.reduceToNat]
    · simp only [c_oword, r_oword, wordL, Int.reduceLT, Int.reduceLE, Int.reduceToNat, List.getD_cons_zero, List.getD_cons_succ, ofC, decide_true, decide_false, go_sem, Nat.reduceDiv, Nat.reduceMod, ↓reduceIte, Nat.reduceEqDiff, Nat.reduceBEq, Nat.reduceSub, Nat.reduceLT, Nat.reduceAdd, Nat.reduceLeDiff, reduceCtorEq, Int.reduceEq, Int.reduceNe, Int.reduceLT, Int.reduceLE, Int.reduceToNat]
      done
    · simp only [c_oword, r_oword, wordL, Int.reduceLT, Int.reduceLE, Int.reduceToNat, List.getD_cons_zero, List.getD_cons_succ, ofC, decide_true, decide_false, go_sem, Nat.reduceDiv, Nat.reduceMod, ↓reduceIte, Nat.reduceEqDiff, Nat.reduceBEq, Nat.reduceSub, Nat.reduceLT, Nat.reduceAdd, Nat.reduceLeDiff, reduceCtorEq, Int.reduceEq, Int.reduceNe, Int.reduceLT, Int.reduceLE, Int.reduceToNat]
    · simp only [c_oword, r_oword, wordL, Int.reduceLT, Int.reduceLE, Int.reduceToNat, List.getD_cons_zero, List.getD_cons_succ, ofC, decide_true, decide_false, go_sem, Nat.reduceDiv, Nat.reduceMod, ↓reduceIte, Nat.reduceEqDiff, Nat.reduceBEq, Nat.reduceSub, Nat.reduceLT, Nat.reduceAdd, Nat.reduceLeDiff, reduceCtorEq, Int.reduceEq, Int.reduceNe, Int.reduceLT, Int.reduceLE, Int.reduceToNat]
    · simp only [c_oword, r_oword, wordL, Int.reduceLT, Int.reduceLE, Int.reduceToNat, List.getD_cons_zero, List.getD_cons_succ, ofC, decide_true, decide_false, go_sem, Nat.reduceDiv, Nat.reduceMod, ↓reduceIte, Nat.reduceEqDiff, Nat.reduceBEq, Nat.reduceSub, Nat.reduceLT, Nat.reduceAdd, Nat.reduceLeDiff, reduceCtorEq, Int.reduceEq, Int.reduceNe, Int.reduceLT, Int.reduceLE, Int.reduceToNat]
  · cases hs
end Go.Proofs.YtlkaaoekbmegkaaGreatDoor
namespace Go.Proofs.YtlkaaoekbmegkaaGreatDoor
set_option linter.all false
open Go.RowKit
def b_okind_0 : ACode := (.seq (.seq (.reg none [⟨(some 4), (.mv (.t 3)), none⟩, ⟨(some 5), (.bin .leq (.t 4) (.c (.int .i64 4))), none⟩]) (.cond (.t 5) .skip (.exit 0))) (.seq (.block 1 (.seq (.reg none [⟨(some 8), (.mv (.t 3)), none⟩, ⟨(some 9), (.call 58 [(.t 8)]), none⟩, ⟨(some 10), (.mv (.t 0)), none⟩, ⟨(some 11), (.bin .eql (.t 9) (.t 10)), none⟩]) (.cond (.t 11) (.seq (.reg none [⟨(some 12), (.mv (.t 3)), none⟩, ⟨(some 2), (.mv (.t 12)), none⟩]) .ret) .skip))) (.reg none [⟨(some 6), (.mv (.t 3)), none⟩, ⟨(some 7), (.bin .add (.t 6) (.c (.int .i64 1))), none⟩, ⟨(some 3), (.mv (.t 7)), none⟩])))
def t_okind_0 : ACode := (.seq (.reg none [⟨(some 2), (.mv (.c (.int .i64 0))), none⟩]) .ret)
def c_okind : ACode := (.seq (.reg none [⟨(some 2), (.mv (.c (.int .i64 0))), none⟩]) (.seq (.seq (.reg none [⟨(some 3), (.mv (.c (.int .i64 1))), none⟩]) (.block 0 (.loop b_okind_0))) t_okind_0))
def r_okind : List ARes := [(.t 2)]
theorem s_okind : slimF Tryz.prog Tryz.f56 = some (c_okind, r_okind) := by kernel_rfl
def kindN (s : List UInt8) : Int := if wordL 1 = s then 1 else if wordL 2 = s then 2 else if wordL 3 = s then 3 else if wordL 4 = s then 4 else 0
theorem kindN_at {s : List UInt8} {k : Nat} (h1 : 1 ≤ k) (h2 : k ≤ 4) (h : wordL k = s) : kindN s = k := by
  subst h
  match k, h1, h2 with
  | 1, _, _ => rfl
  | 2, _, _ => rfl
  | 3, _, _ => rfl
  | 4, _, _ => rfl
theorem kindN_no {s : List UInt8} (h : ∀ j : Nat, 1 ≤ j → j < 5 → wordL j ≠ s) : kindN s = 0 := by
  unfold kindN
  have e1 : wordL 1 ≠ s := h 1 (by omega) (by omega)
  have e2 : wordL 2 ≠ s := h 2 (by omega) (by omega)
  have e3 : wordL 3 ≠ s := h 3 (by omega) (by omega)
  have e4 : wordL 4 ≠ s := h 4 (by omega) (by omega)
  rw [if_neg e1, if_neg e2, if_neg e3, if_neg e4]
def kindS : Spec := fun xs hp => match xs, hp with
  | [.str s], [] => some ⟨.int .i64 (kindN s), [], True⟩
  | _, _ => none
theorem okind_ok : FnOk Tryz.prog 56 kindS := by
  refine fn_slim2 Tryz.func56 s_okind (Φ := phiL [(58, [], wordS)]) (phi_cons oword_ok (by kernel_rfl) phi_nil) ?_
  intro xs hp r hs hp'
  unfold kindS at hs
  split at hs
  · injection hs with hs; subst hs
    rename_i s
    refine ⟨len_le (by kernel_rfl), ?_⟩
    simp only [c_okind, go_sem, Nat.reduceDiv, Nat.reduceMod, ↓reduceIte, Nat.reduceEqDiff, Nat.reduceBEq, Nat.reduceSub, Nat.reduceLT, Nat.reduceAdd, Nat.reduceLeDiff, reduceCtorEq, Int.reduceEq, Int.reduceNe, Int.reduceLT, Int.reduceLE, Int.reduceToNat]
    refine loop2P [] [0, 3] [] (fun k : Nat => ⟨[(0, .str s), (3, .int .i64 (k : Int))], []⟩) (fun k => 1 ≤ k ∧ k ≤ 5 ∧ ∀ j : Nat, 1 ≤ j → j < k → wordL j ≠ s) (fun k => 5 - k) 1 rfl ⟨by omega, by omega, by omega⟩ ⟨rfl, rfl⟩ (fun k hk R hR => ?_)
    obtain ⟨k1, k2, k3⟩ := hk
    simp only [b_okind_0, t_okind_0, r_okind, wordS, go_sem, Nat.reduceDiv, Nat.reduceMod, ↓reduceIte, Nat.reduceEqDiff, Nat.reduceBEq, Nat.reduceSub, Nat.reduceLT, Nat.reduceAdd, Nat.reduceLeDiff, reduceCtorEq, Int.reduceEq, Int.reduceNe, Int.reduceLT, Int.reduceLE, Int.reduceToNat]
    refine ⟨fun h => ⟨fun e => ?_, fun e => ?_⟩, fun h => ?_⟩
    · have h := of_decide_eq_true h
      have e := of_decide_eq_true e
      rw [kindN_at k1 (by omega) e]
    · have h := of_decide_eq_true h
      have e := of_decide_eq_false e
      refine ⟨by (first | omega | (simp only [lenOk, bytesOk, inI, IntKind.bits, List.length_append, Bs_len, List.length_cons, List.length_nil, List.length_map, List.length_take, List.length_drop, List.length_replicate]; omega)), hR _ (k + 1) ⟨by omega, by omega, fun j j1 j2 => ?_⟩ (by omega) rfl⟩
      rcases Nat.lt_or_ge j k with hj | hj
      · exact k3 j j1 hj
      · rw [show j = k by omega]; exact e
    · have h := of_decide_eq_false h
      rw [kindN_no fun j j1 j2 => k3 j j1 (by omega)]
  · cases hs
end Go.Proofs.YtlkaaoekbmegkaaGreatDoor
namespace Go.Proofs.YtlkaaoekbmegkaaGreatDoor
set_option linter.all false
open Go.RowKit
open Go.Lib (index hasPrefix cut indexAny itoa)
theorem cutl1 (s p : List UInt8) : (cut s p).1.length ≤ s.length := by
  unfold cut; split
  · simp only [List.length_take]; omega
  · simp
theorem cutl2 (s p : List UInt8) : (cut s p).2.1.length ≤ s.length := by
  unfold cut; split
  · simp only [List.length_drop]; omega
  · simp
noncomputable def timeN (s : List UInt8) : Int := if decB s = true then (decN s : Int) else 0
noncomputable def fdecT : Spec := fun xs hp => match xs, hp with
  | [.str s], [] => some ⟨.tup [.int .i64 (timeN s), .int .i64 (if decB s = true then 0 else 4)], [], s.length ≤ 281474976710656⟩
  | _, _ => none
theorem fdecT_ok : FnOk Tryz.prog 45 fdecT := by
  refine fdec_ok.imp fun xs hp r hs hp' => ?_
  unfold fdecT at hs
  split at hs
  · rename_i s
    injection hs with hs; subst hs
    by_cases h : decB s = true
    · refine ⟨⟨.tup [.int .i64 (decN s : Int), .int .i64 0], [], s.length ≤ 281474976710656⟩, ?_, hp', ?_, rfl⟩
      · show (if decB s = true then _ else _) = _
        rw [if_pos h]
      · show AV.tup [.int .i64 (decN s : Int), .int .i64 0] = AV.tup [.int .i64 (timeN s), .int .i64 (if decB s = true then 0 else 4)]
        rw [if_pos h, show timeN s = (decN s : Int) from if_pos h]
    · refine ⟨⟨.tup [.int .i64 0, .int .i64 4], [], s.length ≤ 281474976710656⟩, ?_, hp', ?_, rfl⟩
      · show (if decB s = true then _ else _) = _
        rw [if_neg h]
      · show AV.tup [.int .i64 0, .int .i64 4] = AV.tup [.int .i64 (timeN s), .int .i64 (if decB s = true then 0 else 4)]
        rw [if_neg h, show timeN s = 0 from if_neg h]
  · cases hs
noncomputable def personW (s : List UInt8) : WhoL :=
  ⟨(cut s [32, 60]).1, (cut (cut s [32, 60]).2.1 [62, 32]).1, timeN (cut (cut (cut s [32, 60]).2.1 [62, 32]).2.1 [32]).1, (cut (cut (cut s [32, 60]).2.1 [62, 32]).2.1 [32]).2.1⟩
noncomputable def personB (s : List UInt8) : Bool :=
  (cut s [32, 60]).2.2 && (cut (cut s [32, 60]).2.1 [62, 32]).2.2 && (cut (cut (cut s [32, 60]).2.1 [62, 32]).2.1 [32]).2.2 && decB (cut (cut (cut s [32, 60]).2.1 [62, 32]).2.1 [32]).1 && rightW (personW s)
def who0 : WhoL := ⟨[], [], 0, []⟩
noncomputable def personV (s : List UInt8) : WhoL := if personB s = true then personW s else who0
noncomputable def personR (s : List UInt8) (pr : Prop) : Option Ret := some ⟨.tup [.agg (whoP (personV s)), .int .i64 (if personB s = true then 0 else 4)], [], pr⟩
noncomputable def personS : Spec := fun xs hp => match xs, hp with
  | [.str s], [] => personR s (s.length ≤ 1000000000)
  | _, _ => none
set_option maxHeartbeats 2000000 in
theorem person_ok : FnOk Tryz.prog 19 personS := by
  refine fn_slim2 Tryz.func19 s_cperson (Φ := phiL [(44, [], cutS), (45, [], fdecT), (40, [], crightS)]) (phi_cons cut_ok (by kernel_rfl) (phi_cons fdecT_ok (by kernel_rfl) (phi_cons cright_ok (by kernel_rfl) phi_nil))) ?_
  intro xs hp r hs hp'
  unfold personS personR at hs
  split at hs
  · injection hs with hs; subst hs
    rename_i s
    have p1 : s.length ≤ 1000000000 := hp'
    refine ⟨len_le (by kernel_rfl), ?_⟩
    have hA1 := cutl1 s [32, 60]
    have hA2 := cutl2 s [32, 60]
    have hB1 := cutl1 (cut s [32, 60]).2.1 [62, 32]
    have hB2 := cutl2 (cut s [32, 60]).2.1 [62, 32]
    have hC1 := cutl1 (cut (cut s [32, 60]).2.1 [62, 32]).2.1 [32]
    have hC2 := cutl2 (cut (cut s [32, 60]).2.1 [62, 32]).2.1 [32]
    unfold personV whoP who0 personB personW
    simp only [c_cperson, cutS, fdecT, go_sem, Nat.reduceDiv, Nat.reduceMod, ↓reduceIte, Nat.reduceEqDiff, Nat.reduceBEq, Nat.reduceSub, Nat.reduceLT, Nat.reduceAdd, Nat.reduceLeDiff, reduceCtorEq, Int.reduceEq, Int.reduceNe, Int.reduceLT, Int.reduceLE, Int.reduceToNat]
    generalize cut s [32, 60] = A at *
    generalize cut A.2.1 [62, 32] = B at *
    generalize cut B.2.1 [32] = C at *
    refine ⟨by omega, by omega, by omega, by omega, ?_⟩
    cases h1 : A.2.2 <;> cases h2 : B.2.2 <;> cases h3 : C.2.2 <;> cases h4 : decB C.1
    all_goals (try simp only [k_cperson_6, r_cperson, crightS, Bool.false_and, Bool.and_false, Bool.true_and, if_true, if_false, Bool.false_eq_true, go_sem, Nat.reduceDiv, Nat.reduceMod, ↓reduceIte, Nat.reduceEqDiff, Nat.reduceBEq, Nat.reduceSub, Nat.reduceLT, Nat.reduceAdd, Nat.reduceLeDiff, reduceCtorEq, Int.reduceEq, Int.reduceNe, Int.reduceLT, Int.reduceLE, Int.reduceToNat])
    cases h5 : rightW ⟨A.1, B.1, timeN C.1, C.2.1⟩
    all_goals simp only [k_cperson_6, r_cperson, crightS, h5, Bool.false_and, Bool.and_false, Bool.true_and, if_true, if_false, Bool.false_eq_true, go_sem, Nat.reduceDiv, Nat.reduceMod, ↓reduceIte, Nat.reduceEqDiff, Nat.reduceBEq, Nat.reduceSub, Nat.reduceLT, Nat.reduceAdd, Nat.reduceLeDiff, reduceCtorEq, Int.reduceEq, Int.reduceNe, Int.reduceLT, Int.reduceLE, Int.reduceToNat]
    all_goals omega
  · cases hs
structure TagL where
  object : List UInt8
  kind : Int
  name : List UInt8
  tagger : WhoL
  message : List UInt8
def rightT (t : TagL) : Bool := rightW t.tagger && !decide (wordL t.kind = []) && !decide (t.name = []) && !t.name.contains 10
def tagL (o : List UInt8) (k : Int) (n w m : List UInt8) : List UInt8 :=
  [111, 98, 106, 101, 99, 116, 32] ++ hexL o ++ [10, 116, 121, 112, 101, 32] ++ wordL k ++ [10, 116, 97, 103, 32] ++ n ++ [10, 116, 97, 103, 103, 101, 114, 32] ++ w ++ [10, 10] ++ m
def bodyT (t : TagL) : List UInt8 := tagL t.object t.kind t.name (textW t.tagger) t.message
def sizeOkT (t : TagL) : Prop := t.object.length = 20 ∧ t.name.length ≤ 1000000 ∧ t.message.length ≤ 1000000 ∧ t.tagger.name.length + t.tagger.mail.length + t.tagger.zone.length ≤ 1000000
theorem wordL_len6 (k : Int) : (wordL k).length ≤ 6 := by unfold wordL; split <;> simp
theorem textW_len {w : WhoL} (h : rightW w = true) : (textW w).length ≤ w.name.length + w.mail.length + w.zone.length + 26 := by
  obtain ⟨h1, h2⟩ := rightW_time h
  have := Lib.itoa_length_le w.time (by omega) (by omega)
  simp only [textW, List.length_append, List.length_cons, List.length_nil]
  omega
def lineG (s w : List UInt8) : Option (List UInt8 × List UInt8) := if (cut s [10]).2.2 = true ∧ hasPrefix (cut s [10]).1 w = true then some ((cut s [10]).1.drop w.length, (cut s [10]).2.1) else none
def lineR (T : TypeId) (s : List UInt8) (b : Bool) (pr : Prop) : Option (List UInt8 × List UInt8) → Option Ret
  | some (x, r) => some ⟨.tup [.str x, .int .i64 0], [.cells T [(1, .str r), (1, .bool b)]], pr⟩
  | none => some ⟨.tup [.str [], .int .i64 (-1)], [.cells T [(1, .str s), (1, .bool b)]], pr⟩
def lineS : Spec := fun xs hp => match xs, hp with
  | [.ref 0 0 0, .sl 1 [.str w]], [.cells T [(1, .str s), (1, .bool b)]] => lineR T s b (s.length ≤ 1000000000) (lineG s w)
  | _, _ => none
theorem lineG_len {s w x r : List UInt8} (h : lineG s w = some (x, r)) : x.length ≤ s.length ∧ r.length < s.length := by
  unfold lineG at h
  split at h
  · rename_i hc
    injection h with h; injection h with h1 h2; subst h1 h2
    have := congrArg List.length (cut_t hc.1)
    simp only [List.length_append, List.length_cons, List.length_nil] at this
    rw [List.length_drop]; omega
  · cases h
set_option maxHeartbeats 1000000 in
theorem line_ok : FnOk Tryz.prog 74 lineS := by
  refine fn_slim2 Tryz.func74 s_cline (Φ := phiL [(44, [], cutS), (50, [], hasPreS)]) (phi_cons cut_ok (by kernel_rfl) (phi_cons hasPre_ok (by kernel_rfl) phi_nil)) ?_
  intro xs hp r hs hp'
  unfold lineS at hs
  split at hs
  · rename_i w T s b
    have hpre : s.length ≤ 1000000000 := by
      unfold lineR at hs
      split at hs <;> (injection hs with hs; subst hs; exact hp')
    refine ⟨len_le (by kernel_rfl), ?_⟩
    have hA1 := cutl1 s [10]
    simp only [c_cline, cutS, go_sem, Nat.reduceDiv, Nat.reduceMod, ↓reduceIte, Nat.reduceEqDiff, Nat.reduceBEq, Nat.reduceSub, Nat.reduceLT, Nat.reduceAdd, Nat.reduceLeDiff, reduceCtorEq, Int.reduceEq, Int.reduceNe, Int.reduceLT, Int.reduceLE, Int.reduceToNat]
    refine ⟨by omega, ?_⟩
    unfold lineG at hs
    generalize cut s [10] = A at *
    refine loop2P [] [0, 6, 7, 8, 20, 21, 22] [0] (fun i : Nat => ⟨[(0, .ref 0 0 0), (6, .str A.1), (7, .str A.2.1), (8, .bool A.2.2), (20, .sl 1 [.str w]), (21, .int .i64 1), (22, .int .i64 (i : Int))], [.cells T [(1, .str s), (1, .bool b)]]⟩) (fun i => i = 0 ∨ (i = 1 ∧ ¬ (A.2.2 = true ∧ hasPrefix A.1 w = true))) (fun i => 1 - i) 0 rfl (.inl rfl) ⟨rfl, rfl⟩ (fun i hi R hR => ?_)
    rcases hi with rfl | ⟨rfl, hi⟩
    · have go : ¬ (A.2.2 = true ∧ hasPrefix A.1 w = true) → ∀ s', kp [0, 6, 7, 8, 20, 21, 22] [0].length (toS s') = some ⟨[(0, .ref 0 0 0), (6, .str A.1), (7, .str A.2.1), (8, .bool A.2.2), (20, .sl 1 [.str w]), (21, .int .i64 1), (22, .int .i64 ((1 : Nat) : Int))], [.cells T [(1, .str s), (1, .bool b)]]⟩ → R s' := fun hn s' h => hR s' 1 (.inr ⟨rfl, hn⟩) (by decide) h
      have c1 : decide (((0 : Nat) : Int) < 1) = true := by decide
      cases h1 : A.2.2 with
      | false =>
        rw [h1] at go
        simp only [b_cline_0, t_cline_0, r_cline, hasPreS, h1, c1, Int.toNat_natCast, go_sem, Nat.reduceDiv, Nat.reduceMod, ↓reduceIte, Nat.reduceEqDiff, Nat.reduceBEq, Nat.reduceSub, Nat.reduceLT, Nat.reduceAdd, Nat.reduceLeDiff, reduceCtorEq, Int.reduceEq, Int.reduceNe, Int.reduceLT, Int.reduceLE, Int.reduceToNat]
        exact ⟨⟨by omega, by omega⟩, go (by simp) _ rfl⟩
      | true =>
        cases h2 : hasPrefix A.1 w with
        | false =>
          rw [h1, h2] at go
          simp only [b_cline_0, t_cline_0, r_cline, hasPreS, h1, h2, c1, Int.toNat_natCast, go_sem, Nat.reduceDiv, Nat.reduceMod, ↓reduceIte, Nat.reduceEqDiff, Nat.reduceBEq, Nat.reduceSub, Nat.reduceLT, Nat.reduceAdd, Nat.reduceLeDiff, reduceCtorEq, Int.reduceEq, Int.reduceNe, Int.reduceLT, Int.reduceLE, Int.reduceToNat]
          exact ⟨⟨by omega, by omega⟩, go (by simp) _ rfl⟩
        | true =>
          rw [if_pos ⟨h1, h2⟩] at hs
          injection hs with hs; subst hs
          simp only [b_cline_0, t_cline_0, r_cline, hasPreS, h1, h2, c1, Int.toNat_natCast, go_sem, Nat.reduceDiv, Nat.reduceMod, ↓reduceIte, Nat.reduceEqDiff, Nat.reduceBEq, Nat.reduceSub, Nat.reduceLT, Nat.reduceAdd, Nat.reduceLeDiff, reduceCtorEq, Int.reduceEq, Int.reduceNe, Int.reduceLT, Int.reduceLE, Int.reduceToNat]
          have hwl : w.length ≤ A.1.length := by
            have h3 : w.isPrefixOf A.1 = true := h2
            rw [List.isPrefixOf_iff_prefix] at h3
            exact h3.length_le
          exact ⟨⟨by omega, by omega, by omega⟩, by rw [List.take_length]⟩
    · have c1 : decide (((1 : Nat) : Int) < 1) = false := by decide
      rw [if_neg hi] at hs
      injection hs with hs; subst hs
      simp only [b_cline_0, t_cline_0, r_cline, c1, go_sem, Nat.reduceDiv, Nat.reduceMod, ↓reduceIte, Nat.reduceEqDiff, Nat.reduceBEq, Nat.reduceSub, Nat.reduceLT, Nat.reduceAdd, Nat.reduceLeDiff, reduceCtorEq, Int.reduceEq, Int.reduceNe, Int.reduceLT, Int.reduceLE, Int.reduceToNat]
  · cases hs
end Go.Proofs.YtlkaaoekbmegkaaGreatDoor
