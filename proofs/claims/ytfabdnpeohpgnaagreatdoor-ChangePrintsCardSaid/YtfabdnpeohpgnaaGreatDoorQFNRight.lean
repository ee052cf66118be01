import Derived.Test.YtfabdnpeohpgnaaGreatDoorChecked
import Derived.Test.YtfabdnpeohpgnaaGreatDoorQShelf
import Derived.Test.YtfabdnpeohpgnaaGreatDoorQAMS
import Derived.Test.YtfabdnpeohpgnaaGreatDoorQMem
import Derived.Lib.Bytealg
import Derived.KernelRfl
import Derived.Test.YtfabdnpeohpgnaaGreatDoorProg
import Derived.Laws.BitsAll
import Derived.BigQuiet
import Derived.Deep.QuietTactic
import Derived.BigRegion
import Derived.Deep.RegionHeld3
import Derived.StillTailTactics
namespace Go.Proofs.YtfabdnpeohpgnaaGreatDoor
set_option linter.all false
open Go.RowKit
def c_right : ACode := (.seq (.reg none [⟨(some 2), (.mv (.c (.bool false))), none⟩]) (.seq (.reg none [⟨(some 3), (.mv (.t 0)), none⟩, ⟨(some 4), (.bin .geq (.t 3) (.c (.int .i64 0))), none⟩, ⟨(some 5), (.mv (.t 4)), none⟩, ⟨(some 6), (.mv (.t 0)), (some (5, true))⟩, ⟨(some 7), (.bin .lss (.t 6) (.c (.int .i64 4611686018427387904))), (some (5, true))⟩, ⟨(some 8), (.pick (.t 5) (.t 7) (.c (.bool false))), none⟩, ⟨(some 2), (.mv (.t 8)), none⟩]) .ret))
def r_right : List ARes := [(.t 2)]
theorem s_right : slimF Tryz.prog Tryz.f61 = some (c_right, r_right) := by kernel_rfl
theorem okN_ex : ∃ f : Int → Bool, ∀ n, f n = decide (0 ≤ n ∧ n < 4611686018427387904) := ⟨fun n => decide (0 ≤ n ∧ n < 4611686018427387904), fun _ => rfl⟩
noncomputable def okN : Int → Bool := Classical.choose okN_ex
theorem okN_eq (n : Int) : okN n = decide (0 ≤ n ∧ n < 4611686018427387904) := Classical.choose_spec okN_ex n
theorem okN_t {n : Int} (h : okN n = true) : 0 ≤ n ∧ n < 4611686018427387904 := of_decide_eq_true (by rw [← okN_eq]; exact h)
theorem okN_mk {n : Int} (h : 0 ≤ n) (h' : n < 4611686018427387904) : okN n = true := by rw [okN_eq]; exact decide_eq_true ⟨h, h'⟩
theorem okN_no {n : Int} (h : n < 0 ∨ 4611686018427387904 ≤ n) : okN n = false := by rw [okN_eq]; exact decide_eq_false (by omega)
noncomputable def rightS : Spec := fun xs hp => match xs, hp with
  | [.int .i64 n], [] => some ⟨.bool (okN n), [], True⟩
  | _, _ => none
theorem right_ok : FnOk Tryz.prog 61 rightS := by
  refine fn_slim Tryz.func61 s_right (Φ := phiL []) phi_nil ?_
  intro xs hp r hs hp'
  unfold rightS at hs
  split at hs
  · injection hs with hs; subst hs
    rename_i n
    refine ⟨len_le (by kernel_rfl), ?_⟩
    simp only [c_right, r_right, awp_scope, noG_n, noG_r, noG_x, awp_skip, awp_reg, awp_draw, awp_seq, awp_cond, awp_block, awp_loop, awp_exit, awp_ret, arun_nil, arun_op, arun_gt, arun_gf, arunD_nil, arunD_op, arunD_gt, arunD_gf, aq_some, isB_t, isB_u, isB_f, isB_g, isB_p, isU_t, isU_b, ifB_t, ifB_f, thenQ_n, thenQ_x, thenQ_r, inQ_n, inQ_r, inQ_x, retQ_n, retQ_r, exD, AOp.isH, keepN, preB, avalP, pureR, astep, stV, stN, stE, stC, aval, anew, aElems, frzS, frzH, aeff, slots, aret, ares, aress, AV.isTup, eqFs, aEqS, ofC_i, ofC_b, ofC_s, ofC_U, getD_mapU, getD_Bs, Bs_len, Int.toNat_natCast, opd, pt, tk, subp, rdP, Rt.size, Rt.isAgg, Rt.zv, aBin, aInt, aStr, arI, aUn, aToInt, aToStr, aIdxS, zv, aIdxA, aIa, aIaA, aFa, aLd, aFld, pparts, aLo, aHi, cutL, aSlS, aSl, aExt, aNck, aNilc, AV.isStr, aLen, AV.one, AV.multi, pureB, szOk, psz, drp, spl, aEqB, aEqA, aMm, aMkfn, aMkif, aBuild, toV, aBuildA, wrP, unparts, view, nilS, St.ev, lk, St.put, St.pin, St.pinV, acall0, acall1, acall2, acall3, bor, bor0, bor1, phiL_nil, phiL_at, tau, lentO, okIds, flatC, flatB, flatOs, flatO, flatPs, place, setAll_nil, setAll_cons, nodupB, renObj, closeIds, addNew, idsOf, idsObj, posOf, lenOk_0, lenOk_1, lenOk_2, lenOk_3, lenOk_4, lenOk_8, ↓reduceIte, Option.isSome_none, Option.isSome_some, Bool.or_true, Bool.true_or,  Nat.reduceEqDiff, Nat.reduceBEq, Nat.reduceSub, Nat.reduceLT, beq_self_eq_true, List.map, List.set, List.map_cons, List.map_nil, List.flatMap_cons, List.flatMap_nil, List.flatten_cons, List.flatten_nil, true_and, and_true, List.length_cons, List.length_nil, Nat.reduceAdd, Nat.reduceLeDiff, List.nil_append, List.cons_append, List.append_nil, Option.map, mapO, ren, kp, kpI, ent, nilG, Option.bind, List.range, List.range.loop, List.getElem?_cons_zero, List.getElem?_cons_succ, List.getElem?_nil, List.getD_cons_zero, List.getD_cons_succ, List.drop_zero, List.drop_succ_cons, List.drop_nil, List.take_zero, List.take_succ_cons, List.all_cons, List.all_nil, List.isEmpty_nil, List.isEmpty_cons, Bool.and_true, Bool.true_and, Bool.not_true, Bool.not_false, List.contains_nil, reduceCtorEq, List.contains_cons, Bool.or_false, Bool.false_or, eq_self, forall_const, false_implies, Bool.false_eq_true, Nat.le_refl, List.length_map, List.length_set, List.length_replicate, and_self, implies_true]
    refine ⟨fun h => ?_, fun h => ?_⟩
    · have h1 := of_decide_eq_true h
      simp only [h, Bool.false_eq_true, renObj, finP, finI, closeIds, addNew, idsOf, List.flatMap_nil, List.flatMap_cons, List.append_nil, List.nil_append, List.take_zero, nodupB, posOf, idsObj, List.getD_cons_zero, List.getD_cons_succ, List.range, List.range.loop, ren, lentO, mapO, Option.map, ↓reduceIte, Nat.reduceEqDiff, true_and, and_true, List.getElem?_cons_zero, List.getElem?_cons_succ, Nat.reduceAdd, List.contains_nil, Bool.not_false, Bool.and_true, List.map_nil, List.map_cons, List.take_succ_cons]
      have : okN n = decide (n < 4611686018427387904) := by rw [okN_eq]; simp [h1]
      rw [this]
    · have h1 := of_decide_eq_false h
      simp only [h, Bool.false_eq_true, renObj, finP, finI, closeIds, addNew, idsOf, List.flatMap_nil, List.flatMap_cons, List.append_nil, List.nil_append, List.take_zero, nodupB, posOf, idsObj, List.getD_cons_zero, List.getD_cons_succ, List.range, List.range.loop, ren, lentO, mapO, Option.map, ↓reduceIte, Nat.reduceEqDiff, true_and, and_true, List.getElem?_cons_zero, List.getElem?_cons_succ, Nat.reduceAdd, List.contains_nil, Bool.not_false, Bool.and_true, List.map_nil, List.map_cons, List.take_succ_cons]
      have : okN n = false := okN_no (by omega)
      rw [this]
  · cases hs
end Go.Proofs.YtfabdnpeohpgnaaGreatDoor
namespace Go.Proofs.YtfabdnpeohpgnaaGreatDoor
set_option linter.all false
open Go.RowKit
open Go.Lib (decDigits itoa atoiAll)
noncomputable def decB : List UInt8 → Bool := sealF fun s => (decV s).isSome
noncomputable def decN : List UInt8 → Nat := sealF fun s => (decV s).getD 0
theorem decBN_some {s : List UInt8} {n : Nat} (h : decV s = some n) : decB s = true ∧ decN s = n := by
  unfold decB decN; rw [sealF_eq, sealF_eq]; simp only [h]; exact ⟨rfl, rfl⟩
theorem decB_none {s : List UInt8} (h : decV s = none) : decB s = false := by
  unfold decB; rw [sealF_eq]; simp only [h]; rfl
theorem decB_f {s : List UInt8} (h : decB s = false) : decV s = none := by
  cases h' : decV s with
  | none => rfl
  | some n => rw [(decBN_some h').1] at h; cases h
theorem decB_t {s : List UInt8} (h : decB s = true) : decV s = some (decN s) := by
  cases h' : decV s with
  | none => rw [decB_none h'] at h; cases h
  | some n => rw [(decBN_some h').2]
theorem decB_no {s : List UInt8} (h : ∀ v, atoiAll s ≠ .ok v) : decB s = false := by
  apply decB_none; unfold decV; split
  · rename_i v e; exact absurd e (h v)
  · rfl
theorem decB_ok1 {s : List UInt8} {v : Int} (h : atoiAll s = .ok v) (h0 : okN v = true) (h1 : itoa v = s) : decB s = true ∧ (decN s : Int) = v := by
  obtain ⟨k1, k2⟩ := okN_t h0
  have e : decV s = some v.toNat := by unfold decV; rw [h]; exact if_pos ⟨k1, k2, h1⟩
  obtain ⟨a, b⟩ := decBN_some e
  exact ⟨a, by omega⟩
theorem decB_ok0 {s : List UInt8} {v : Int} (h : atoiAll s = .ok v) (h1 : okN v = false ∨ itoa v ≠ s) : decB s = false := by
  apply decB_none; unfold decV; rw [h]
  refine if_neg ?_
  rintro ⟨a, b, c⟩
  rcases h1 with h1 | h1
  · rw [okN_mk a b] at h1; cases h1
  · exact h1 c
def c_fdec : ACode := (.seq (.reg none [⟨(some 2), (.mv (.c (.int .i64 0))), none⟩, ⟨(some 3), (.mv (.c (.int .i64 0))), none⟩]) (.seq (.reg none [⟨(some 7), (.mv (.t 0)), none⟩, ⟨(some 8), (.call 60 [(.t 7)]), none⟩, ⟨(some 6), (.mv (.t 8)), none⟩, ⟨(some 9), (.ext (.t 6) 0), none⟩, ⟨(some 10), (.ext (.t 6) 1), none⟩, ⟨(some 4), (.mv (.t 9)), none⟩, ⟨(some 5), (.mv (.t 10)), none⟩]) (.seq (.seq (.reg none [⟨(some 11), (.mv (.t 5)), none⟩, ⟨(some 12), (.nilc 0 true (.t 11)), none⟩, ⟨(some 13), (.mv (.t 12)), none⟩, ⟨(some 14), (.mv (.t 4)), (some (13, false))⟩, ⟨(some 15), (.call 61 [(.t 14)]), (some (13, false))⟩, ⟨(some 16), (.un .not (.t 15)), (some (13, false))⟩, ⟨(some 17), (.pick (.t 13) (.c (.bool true)) (.t 16)), none⟩, ⟨(some 18), (.mv (.t 17)), none⟩, ⟨(some 19), (.mv (.t 4)), (some (18, false))⟩, ⟨(some 20), (.call 36 [(.t 19)]), (some (18, false))⟩, ⟨(some 21), (.mv (.t 0)), (some (18, false))⟩, ⟨(some 22), (.bin .neq (.t 20) (.t 21)), (some (18, false))⟩, ⟨(some 23), (.pick (.t 18) (.c (.bool true)) (.t 22)), none⟩]) (.cond (.t 23) (.seq (.reg none [⟨(some 2), (.mv (.c (.int .i64 0))), none⟩, ⟨(some 3), (.mv (.c (.int .i64 4))), none⟩]) .ret) .skip)) (.seq (.reg none [⟨(some 24), (.mv (.t 4)), none⟩, ⟨(some 2), (.mv (.t 24)), none⟩, ⟨(some 3), (.mv (.c (.int .i64 0))), none⟩]) .ret))))
def r_fdec : List ARes := [(.t 2), (.t 3)]
theorem s_fdec : slimF Tryz.prog Tryz.f46 = some (c_fdec, r_fdec) := by kernel_rfl
noncomputable def fdecS : Spec := fun xs hp => match xs, hp with
  | [.str s], [] => if decB s = true then some ⟨.tup [.int .i64 (decN s : Int), .int .i64 0], [], s.length ≤ 281474976710656⟩ else some ⟨.tup [.int .i64 0, .int .i64 4], [], s.length ≤ 281474976710656⟩
  | _, _ => none
theorem fdec_ok : FnOk Tryz.prog 46 fdecS := by
  refine fn_slim2 Tryz.func46 s_fdec (Φ := phiL [(60, [], atoiS), (61, [], rightS), (36, [], itoaS)]) (phi_cons atoi_ok (by kernel_rfl) (phi_cons right_ok (by kernel_rfl) (phi_cons itoa_ok (by kernel_rfl) phi_nil))) ?_
  intro xs hp r hs hp'
  unfold fdecS at hs
  split at hs
  · rename_i s
    refine ⟨len_le (by kernel_rfl), ?_⟩
    rcases h : atoiAll s with v | _ | _
    · cases ho : okN v with
      | true =>
        obtain ⟨k1, k2⟩ := okN_t ho
        have hin : inI v := by (first | omega | (simp only [lenOk, bytesOk, inI, IntKind.bits, List.length_append, Bs_len, List.length_cons, List.length_nil, List.length_map, List.length_take, List.length_drop, List.length_replicate]; omega))
        by_cases hi : itoa v = s
        · obtain ⟨e1, e2⟩ := decB_ok1 h ho hi
          rw [if_pos e1] at hs; injection hs with hs; subst hs
          have d1 : decide (itoa v = s) = true := decide_eq_true hi
          simp only [c_fdec, r_fdec, atoiS, rightS, itoaS, atoiR, h, ho, e2, d1, go_sem, Nat.reduceDiv, Nat.reduceMod, ↓reduceIte, Nat.reduceEqDiff, Nat.reduceBEq, Nat.reduceSub, Nat.reduceLT, Nat.reduceAdd, Nat.reduceLeDiff, reduceCtorEq, Int.reduceEq, Int.reduceNe, Int.reduceLT, Int.reduceLE, Int.reduceToNat]
          exact ⟨hp', hin⟩
        · have e1 := decB_ok0 h (.inr hi)
          rw [if_neg (by rw [e1]; simp)] at hs; injection hs with hs; subst hs
          have d1 : decide (itoa v = s) = false := decide_eq_false hi
          simp only [c_fdec, r_fdec, atoiS, rightS, itoaS, atoiR, h, ho, d1, go_sem, Nat.reduceDiv, Nat.reduceMod, ↓reduceIte, Nat.reduceEqDiff, Nat.reduceBEq, Nat.reduceSub, Nat.reduceLT, Nat.reduceAdd, Nat.reduceLeDiff, reduceCtorEq, Int.reduceEq, Int.reduceNe, Int.reduceLT, Int.reduceLE, Int.reduceToNat]
          exact ⟨hp', hin⟩
      | false =>
        have e1 := decB_ok0 h (.inl ho)
        rw [if_neg (by rw [e1]; simp)] at hs; injection hs with hs; subst hs
        simp only [c_fdec, r_fdec, atoiS, rightS, itoaS, atoiR, h, ho, go_sem, Nat.reduceDiv, Nat.reduceMod, ↓reduceIte, Nat.reduceEqDiff, Nat.reduceBEq, Nat.reduceSub, Nat.reduceLT, Nat.reduceAdd, Nat.reduceLeDiff, reduceCtorEq, Int.reduceEq, Int.reduceNe, Int.reduceLT, Int.reduceLE, Int.reduceToNat]
        exact hp'
    · have e1 := decB_no (s := s) (by intro v; rw [h]; simp)
      rw [if_neg (by rw [e1]; simp)] at hs; injection hs with hs; subst hs
      simp only [c_fdec, r_fdec, atoiS, rightS, itoaS, atoiR, h, go_sem, Nat.reduceDiv, Nat.reduceMod, ↓reduceIte, Nat.reduceEqDiff, Nat.reduceBEq, Nat.reduceSub, Nat.reduceLT, Nat.reduceAdd, Nat.reduceLeDiff, reduceCtorEq, Int.reduceEq, Int.reduceNe, Int.reduceLT, Int.reduceLE, Int.reduceToNat]
      exact hp'
    · have e1 := decB_no (s := s) (by intro v; rw [h]; simp)
      rw [if_neg (by rw [e1]; simp)] at hs; injection hs with hs; subst hs
      simp only [c_fdec, r_fdec, atoiS, rightS, itoaS, atoiR, h, go_sem, Nat.reduceDiv, Nat.reduceMod, ↓reduceIte, Nat.reduceEqDiff, Nat.reduceBEq, Nat.reduceSub, Nat.reduceLT, Nat.reduceAdd, Nat.reduceLeDiff, reduceCtorEq, Int.reduceEq, Int.reduceNe, Int.reduceLT, Int.reduceLE, Int.reduceToNat]
      exact hp'
  · cases hs
end Go.Proofs.YtfabdnpeohpgnaaGreatDoor
namespace Go.Proofs.YtfabdnpeohpgnaaGreatDoor
set_option linter.all false
open Go.RowKit
open Go.Lib (itoa decDigits)
theorem decN_f {s : List UInt8} (h : decV s = none) : decN s = 0 := by
  unfold decN; rw [sealF_eq]; simp only [h]; rfl
theorem dec_dig (n : Nat) : ∀ x ∈ decDigits n, 48 ≤ x.toNat ∧ x.toNat ≤ 57 := by
  induction n using Nat.strongRecOn with
  | _ n ih =>
    intro x hx
    by_cases h : n < 10
    · rw [decD_small h, List.mem_singleton] at hx
      subst hx; rw [dc_toNat h]; omega
    · rw [decD_big (by omega), List.mem_append, List.mem_singleton] at hx
      rcases hx with hx | rfl
      · exact ih (n / 10) (by omega) x hx
      · rw [dc_toNat (by omega)]; omega
theorem dec_no (n : Nat) (c : UInt8) (h : c.toNat < 48) : c ∉ decDigits n := fun hm => by have := (dec_dig n c hm).1; omega
theorem itoa_dec {t : Int} (h : 0 ≤ t) : itoa t = decDigits t.toNat := by
  obtain ⟨n, rfl⟩ := Int.eq_ofNat_of_zero_le h
  rw [itoa_nat]; rfl
theorem decB_itoa {t : Int} (h0 : 0 ≤ t) (h1 : t < 4611686018427387904) : decB (itoa t) = true ∧ (decN (itoa t) : Int) = t := by
  rw [itoa_dec h0]
  obtain ⟨a, b⟩ := decBN_some (decV_dec t.toNat (by omega))
  exact ⟨a, by rw [b]; omega⟩
theorem decN_lt (s : List UInt8) : decN s < 4611686018427387904 := by
  cases h : decB s with
  | true => exact (decV_some (decB_t h)).2
  | false => rw [decN_f (decB_f h)]; omega
noncomputable def nmV (s : List UInt8) : Int := if s.head? = some 45 then -(decN (s.drop 1) : Int) else (decN s : Int)
noncomputable def nmB (s : List UInt8) : Bool := if s.head? = some 45 then decB (s.drop 1) && !decide (decN (s.drop 1) = 0) else decB s
theorem dec_head (n : Nat) : (decDigits n).head? ≠ some 45 := by
  intro h
  cases hd : decDigits n with
  | nil => rw [hd] at h; cases h
  | cons x l =>
    rw [hd] at h; injection h with h
    have := dec_dig n x (by rw [hd]; exact List.mem_cons_self ..)
    rw [h] at this; exact absurd this.1 (by decide)
theorem nm_itoa {z : Int} (h0 : -4611686018427387904 < z) (h1 : z < 4611686018427387904) : nmB (itoa z) = true ∧ nmV (itoa z) = z := by
  by_cases hz : z < 0
  · have e : itoa z = 45 :: decDigits z.natAbs := by unfold itoa; rw [if_pos hz]
    have e2 : itoa (z.natAbs : Int) = decDigits z.natAbs := by rw [itoa_nat]
    obtain ⟨a, b⟩ := decB_itoa (t := (z.natAbs : Int)) (by omega) (by omega)
    rw [e2] at a b
    unfold nmB nmV
    have hh : (45 :: decDigits z.natAbs).head? = some 45 := rfl
    rw [e, if_pos hh, if_pos hh, List.drop_succ_cons, List.drop_zero, a]
    refine ⟨?_, by omega⟩
    rw [decide_eq_false (by omega)]; rfl
  · obtain ⟨a, b⟩ := decB_itoa (t := z) (by omega) h1
    have hh : (itoa z).head? ≠ some 45 := by rw [itoa_dec (by omega)]; exact dec_head _
    unfold nmB nmV
    rw [if_neg hh, if_neg hh]
    exact ⟨a, b⟩
theorem itoa_no (z : Int) (c : UInt8) (h : c.toNat < 48) (h2 : c ≠ 45) : c ∉ itoa z := by
  unfold itoa
  split
  · rw [List.mem_cons, not_or]; exact ⟨h2, dec_no _ _ h⟩
  · exact dec_no _ _ h
end Go.Proofs.YtfabdnpeohpgnaaGreatDoor
namespace Go.Proofs.YtfabdnpeohpgnaaGreatDoor
set_option linter.all false
open Go.RowKit
def be : Nat → Nat → List UInt8
  | 0, _ => []
  | k + 1, n => byteOf ((n / 256 ^ k % 256 : Nat) : Int) :: be k n
structure Hk where
  fr : Nat
  tt : Nat
  b : List UInt8
structure HRec where
  f : Int
  t : Int
  A : Option Addr
  c : Nat
  b : List UInt8
def HRec.cells (h : HRec) : List Value := [.int .i64 h.f, .int .i64 h.t, .slice h.A h.b.length h.c]
def hcells (hs : List HRec) : List Value := hs.flatMap HRec.cells
theorem hcells_len (hs : List HRec) : (hcells hs).length = hs.length * 3 := by
  induction hs with
  | nil => rfl
  | cons h hs ih => simp only [hcells, List.flatMap_cons, List.length_append] at ih ⊢; rw [ih]; simp [HRec.cells]; omega
theorem hcells_get (hs : List HRec) (i k : Nat) (hi : i < hs.length) (hk : k < 3) : (hcells hs)[i * 3 + k]? = hs[i].cells[k]? := by
  induction hs generalizing i with
  | nil => simp at hi
  | cons h hs ih =>
    have hl : h.cells.length = 3 := rfl
    show (h.cells ++ hcells hs)[i * 3 + k]? = _
    cases i with
    | zero => rw [List.getElem?_append_left (by omega)]; simp
    | succ i =>
      rw [List.getElem?_append_right (by omega), hl, show (i + 1) * 3 + k - 3 = i * 3 + k by omega, ih i (by simpa using hi)]
      rfl
def RdH (w : World) (A : Option Addr) (hs : List HRec) : Prop := RdR w A (hcells hs) ∧ ∀ h ∈ hs, Rd w h.A h.b
theorem RdH.at_ {w : World} {A : Option Addr} {hs : List HRec} (h : RdH w A hs) (hl : 0 < hs.length) : ∃ b o, A = some ⟨b, o, none⟩ ∧ b < w.heap.size ∧
    ∀ i (hi : i < hs.length), w.cell? ⟨b, o + i * 3, none⟩ = some (.int .i64 hs[i].f) ∧ w.cell? ⟨b, o + i * 3 + 1, none⟩ = some (.int .i64 hs[i].t) ∧ w.cell? ⟨b, o + i * 3 + 2, none⟩ = some (.slice hs[i].A hs[i].b.length hs[i].c) := by
  obtain ⟨b, o, e, hb, hc⟩ := h.1.at_ (by rw [hcells_len]; omega)
  refine ⟨b, o, e, hb, fun i hi => ⟨?_, ?_, ?_⟩⟩
  · exact hc (i * 3) _ (by have := hcells_get hs i 0 hi (by omega); simpa [HRec.cells] using this)
  · rw [Nat.add_assoc]; exact hc (i * 3 + 1) _ (by rw [hcells_get hs i 1 hi (by omega)]; rfl)
  · rw [Nat.add_assoc]; exact hc (i * 3 + 2) _ (by rw [hcells_get hs i 2 hi (by omega)]; rfl)
theorem RdH.ext {w w' : World} {A : Option Addr} {hs : List HRec} (h : RdH w A hs) (hb : Below w.heap.size w w') : RdH w' A hs := ⟨h.1.ext hb, fun x hx => (h.2 x hx).ext hb⟩
def u64 (x : Int) : Nat := (x % 18446744073709551616).toNat
def HRec.print (h : HRec) : List UInt8 := be 4 (u64 h.f) ++ be 4 (u64 h.t) ++ be 4 h.b.length ++ h.b
structure HkV where
  err : Bool
  fr : Nat
  tt : Nat
  A : Option Addr
  c : Nat
  b : List UInt8
def HkV.el (x : HkV) : Option Hk := if x.err then none else some ⟨x.fr, x.tt, x.b⟩
def Valid (n : Nat) : Nat → List HkV → Prop
  | k, [] => k ≤ n
  | k, h :: r => k ≤ h.fr ∧ h.fr ≤ h.tt ∧ h.tt ≤ n ∧ Valid n h.tt r
theorem Valid.at_ {n : Nat} : ∀ {hs : List HkV} {k : Nat}, Valid n k hs → ∀ i (hi : i < hs.length), hs[i].fr ≤ hs[i].tt ∧ hs[i].tt ≤ n ∧ Valid n hs[i].tt (hs.drop (i + 1))
  | [], _, _, _, hi => absurd hi (by simp)
  | h :: r, _, hv, 0, _ => ⟨hv.2.1, hv.2.2.1, hv.2.2.2⟩
  | h :: r, _, hv, i + 1, hi => Valid.at_ hv.2.2.2 i (by simpa using hi)
theorem Valid.all {n : Nat} {hs : List HkV} : ∀ {k : Nat}, Valid n k hs → ∀ h ∈ hs, h.fr ≤ h.tt := by
  induction hs with
  | nil => intro k _ h hh; cases hh
  | cons x r ih =>
    intro k hv h hh
    rcases List.mem_cons.1 hh with rfl | hh
    · exact hv.2.1
    · exact ih hv.2.2.2 h hh
end Go.Proofs.YtfabdnpeohpgnaaGreatDoor
namespace Go.Proofs.YtfabdnpeohpgnaaGreatDoor
set_option linter.all false
open Go.RowKit
def rot : Nat → Nat → Nat
  | x, 0 => x
  | x, n + 1 => 2 * rot x n % 4294967296 + 2 * rot x n / 4294967296
structure ShSt where
  a : Nat
  b : Nat
  c : Nat
  d : Nat
  e : Nat
def ShSt.ok (s : ShSt) : Prop := s.a < 4294967296 ∧ s.b < 4294967296 ∧ s.c < 4294967296 ∧ s.d < 4294967296 ∧ s.e < 4294967296
def nextW (L : List Nat) (i : Nat) : Nat := rot (L.getD (i - 3) 0 ^^^ L.getD (i - 8) 0 ^^^ L.getD (i - 14) 0 ^^^ L.getD (i - 16) 0) 1
def ext : Nat → List Nat → List Nat
  | 0, L => L
  | n + 1, L => ext n (L ++ [nextW L L.length])
def ShSt.bytes (s : ShSt) : List UInt8 := be 4 s.a ++ be 4 s.b ++ be 4 s.c ++ be 4 s.d ++ be 4 s.e
def allLt (L : List Nat) : Prop := ∀ x ∈ L, x < 4294967296
theorem allLt.getD {L : List Nat} (h : allLt L) (i : Nat) : L.getD i 0 < 4294967296 := by
  rw [List.getD_eq_getElem?_getD]
  rcases Nat.lt_or_ge i L.length with h1 | h1
  · rw [List.getElem?_eq_getElem h1]; exact h _ (List.getElem_mem h1)
  · rw [List.getElem?_eq_none h1]; simp
attribute [irreducible] ext nextW rot
end Go.Proofs.YtfabdnpeohpgnaaGreatDoor
namespace Go.Proofs.YtfabdnpeohpgnaaGreatDoor
set_option linter.all false
def digs : List UInt8 := [48, 49, 50, 51, 52, 53, 54, 55, 56, 57, 97, 98, 99, 100, 101, 102]
def hexL : List UInt8 → List UInt8
  | [] => []
  | b :: l => digs.getD (b.toNat / 16) 0 :: digs.getD (b.toNat % 16) 0 :: hexL l
theorem hexL_length : ∀ l, (hexL l).length = 2 * l.length
  | [] => rfl
  | b :: l => by simp [hexL, hexL_length l]; omega
theorem hexL_append : ∀ l m, hexL (l ++ m) = hexL l ++ hexL m
  | [], m => rfl
  | b :: l, m => by simp [hexL, hexL_append l m]
end Go.Proofs.YtfabdnpeohpgnaaGreatDoor

namespace Go.Proofs.YtfabdnpeohpgnaaGreatDoor
set_option linter.all false
open Go.RowKit
theorem wpList_stop_load {P : Program} {ops : Array Oper} {Q : Exit → Act → World → Prop} {a : Act} {w : World} {rest : List Oper} {o : Oper} {ty : TypeId} {x : Operand} (_ho : o.op = .load ty x) (h : Stop (wpList P ops Q (o :: rest) a w)) : wpList P ops Q (o :: rest) a w := h
theorem info20 : (Tryz.prog.info? 27).map (fun i => i.size) = some 20 := by kernel_rfl
def z20 : Array Value := (List.replicate 20 (Value.int .u8 0)).toArray
theorem zero20 (w : World) : (zeroValue 27).run Tryz.prog w = .ok (.agg z20) w := by
  unfold z20; kernel_rfl
end Go.Proofs.YtfabdnpeohpgnaaGreatDoor
namespace Go.Proofs.YtfabdnpeohpgnaaGreatDoor
set_option linter.all false
open Go.RowKit
theorem index20 (l : List UInt8) (j : Nat) (hl : l.length = 20) (hj : j < 20) (w : World) : (Instr.index 27 (.agg (l.map U).toArray) (.int .i64 (j : Int))).run Tryz.prog w = .ok (U (l.getD j 0)) w := by
  have h1 : (l.map U).toArray[j]? = some (U (l.getD j 0)) := by
    simp [List.getElem?_eq_getElem (show j < l.length by omega)]
  have e : (l.map U).toArray.size = 20 := by simp; omega
  have hz : (0 : Int) ≤ (j : Int) := by omega
  have hw : IntKind.i64.wrap (j : Int) = j := IntWalk.i64_in _ (by omega)
  have hj2 : (j : Int) < 20 := by omega
  simp [go_sem, Instr.index, h1, e, run_underlying Tryz.underlying27, hw, hz, hj2]
  rw [if_pos hj, List.getElem?_eq_getElem (show j < l.length by omega)]
  rfl
def digS : ByteArray := ⟨#[48, 49, 50, 51, 52, 53, 54, 55, 56, 57, 97, 98, 99, 100, 101, 102]⟩
theorem indexDig (k : Nat) (hk : k < 16) (w : World) : (Instr.index 9 (.string digS) (.int .u8 (k : Int))).run Tryz.prog w = .ok (.int .u8 ((digs.getD k 0).toNat : Int)) w := by
  match k, hk with
  | 0, _ => exact (run_index_string w 9 digS .u8 _ Tryz.underlying9).trans rfl
  | 1, _ => exact (run_index_string w 9 digS .u8 _ Tryz.underlying9).trans rfl
  | 2, _ => exact (run_index_string w 9 digS .u8 _ Tryz.underlying9).trans rfl
  | 3, _ => exact (run_index_string w 9 digS .u8 _ Tryz.underlying9).trans rfl
  | 4, _ => exact (run_index_string w 9 digS .u8 _ Tryz.underlying9).trans rfl
  | 5, _ => exact (run_index_string w 9 digS .u8 _ Tryz.underlying9).trans rfl
  | 6, _ => exact (run_index_string w 9 digS .u8 _ Tryz.underlying9).trans rfl
  | 7, _ => exact (run_index_string w 9 digS .u8 _ Tryz.underlying9).trans rfl
  | 8, _ => exact (run_index_string w 9 digS .u8 _ Tryz.underlying9).trans rfl
  | 9, _ => exact (run_index_string w 9 digS .u8 _ Tryz.underlying9).trans rfl
  | 10, _ => exact (run_index_string w 9 digS .u8 _ Tryz.underlying9).trans rfl
  | 11, _ => exact (run_index_string w 9 digS .u8 _ Tryz.underlying9).trans rfl
  | 12, _ => exact (run_index_string w 9 digS .u8 _ Tryz.underlying9).trans rfl
  | 13, _ => exact (run_index_string w 9 digS .u8 _ Tryz.underlying9).trans rfl
  | 14, _ => exact (run_index_string w 9 digS .u8 _ Tryz.underlying9).trans rfl
  | 15, _ => exact (run_index_string w 9 digS .u8 _ Tryz.underlying9).trans rfl
  | k + 16, hk => exact absurd hk (by omega)
theorem u8_hi (u : UInt8) : (u.toNat : Int) / 16 = ((u.toNat / 16 : Nat) : Int) := by omega
theorem u8_lo (u : UInt8) : bits .and .u8 (u.toNat : Int) 15 = ((u.toNat % 16 : Nat) : Int) := by
  have h := u8_and_nat u.toNat 15 u.toNat_lt (by omega)
  rw [show ((15 : Nat) : Int) = 15 from rfl] at h
  rw [h, show (15 : Nat) = 2 ^ 4 - 1 from rfl, Nat.and_two_pow_sub_one_eq_mod]
theorem hexL_take (l : List UInt8) (k : Nat) (u : UInt8) (hk : k < l.length) (hu : l.getD k 0 = u) : hexL (l.take (k + 1)) = hexL (l.take k) ++ [digs.getD (u.toNat / 16) 0] ++ [digs.getD (u.toNat % 16) 0] := by
  have e : l.take (k + 1) = l.take k ++ [u] := by
    rw [List.take_succ, List.getElem?_eq_getElem hk, ← hu]
    simp [List.getElem?_eq_getElem hk]
  rw [e, hexL_append]
  simp [hexL]
theorem byteCells_snoc (X : List UInt8) (d : UInt8) : Lib.byteCells X ++ [.int .u8 (d.toNat : Int)] = Lib.byteCells (X ++ [d]) := by simp [Lib.byteCells]
set_option maxHeartbeats 2000000 in
set_option maxRecDepth 100000 in
theorem shaHex (l : List UInt8) (h20 : l.length = 20) (w : World) :
    Calls Tryz.prog 17 #[.agg (l.map U).toArray] w fun e w' => e = .returned (.string ⟨(hexL l).toArray⟩) ∧ Below w.heap.size w w' := by
  go_enter Tryz.func17, Tryz.ntmps17
  go_wp2_with (with_reducible refine wpList_stop_load (ty := 27) (x := .tmp 1) rfl ?_)
  have hS := ((Sep.start w).allocC (l.map U).toArray 27).allocC #[.pointer none, .slice none 0 0] 75
  rw [show (w.alloc (.cells (l.map U).toArray 27)).heap.size = w.heap.size + 1 from World.size_alloc _ _] at hS
  refine unstop (wpList_load_row rfl 27 (.tmp 1) rfl w.heap.size rfl 27 (l.map U).toArray (0, 0) _ (hS.blk 0 rfl) Tryz.underlying27 rfl (by rw [show (l.map U).toArray.size = 20 by simp [h20]]; exact info20) ?_)
  have hb : Lib.IsBuilder 75 5 w.heap.size (w.heap.size + 1) (Lib.byteCells (hexL [])) ((w.alloc (.cells (l.map U).toArray 27)).alloc (.cells #[.pointer none, .slice none 0 0] 75)) :=
    Or.inl ⟨by omega, .slice none 0 0, hS.blk 1 rfl, World.ownsRow_nil _ _ _ _, by simp [Value.ownBlock]⟩
  have hB := hS.below
  clear hS
  go_wp2
  go_loopw [7] (fun i wr => ∃ k : Nat, k ≤ 20 ∧ i = .int .i64 k ∧ Lib.IsBuilder 75 5 w.heap.size (w.heap.size + 1) (Lib.byteCells (hexL (l.take k))) wr ∧ Below w.heap.size w wr)
    (fun i _ => 20 - (intOf i).toNat)
  case atStart => exact ⟨0, by omega, rfl, by simpa using hb, hB⟩
  case round =>
    clear hb hB
    obtain ⟨k, hk, rfl, hb, hB⟩ := hrel
    by_cases hlt : k < 20
    · obtain ⟨u, hu⟩ : ∃ u, l.getD k 0 = u := ⟨_, rfl⟩
      have hx : ∀ w, (Instr.index 27 (.agg (l.map U).toArray) (.int .i64 (k : Int))).run Tryz.prog w = .ok (.int .u8 (u.toNat : Int)) w := by
        rw [← hu]; exact index20 l k h20 hlt
      have h1 : ∀ w, (Instr.index 9 (.string ⟨#[48, 49, 50, 51, 52, 53, 54, 55, 56, 57, 97, 98, 99, 100, 101, 102]⟩) (.int .u8 ((u.toNat : Int) / 16))).run Tryz.prog w = .ok (.int .u8 ((digs.getD (u.toNat / 16) 0).toNat : Int)) w := fun w => by
        have := u.toNat_lt
        rw [u8_hi]; exact indexDig _ (by omega) w
      have h2 : ∀ w, (Instr.index 9 (.string ⟨#[48, 49, 50, 51, 52, 53, 54, 55, 56, 57, 97, 98, 99, 100, 101, 102]⟩) (.int .u8 (bits .and .u8 (u.toNat : Int) 15))).run Tryz.prog w = .ok (.int .u8 ((digs.getD (u.toNat % 16) 0).toNat : Int)) w := fun w => by
        rw [u8_lo]; exact indexDig _ (by omega) w
      have htk := hide (hexL_take l k u (by omega) hu)
      have hle := hide (show (hexL (l.take k)).length ≤ 40 by rw [hexL_length, List.length_take]; omega)
      generalize hexL (l.take k) = X at *
      generalize digs.getD (u.toNat / 16) 0 = d1 at *
      generalize digs.getD (u.toNat % 16) 0 = d2 at *
      go_wp2_with (at_builtin; refine stopAt ?_)
      refine (writeByte w.heap.size (w.heap.size + 1) (Lib.byteCells X) _ wr hb (by rw [Lib.byteCells_length]; have := hle.out; omega) hB.size).mono ?_
      rintro e w1 ⟨rfl, hb1, hB1⟩
      rw [byteCells_snoc] at hb1
      replace hB := hB.trans hB1
      clear hb hB1
      go_wp2_with (at_builtin; refine stopAt ?_)
      refine (writeByte w.heap.size (w.heap.size + 1) (Lib.byteCells (X ++ [d1])) _ w1 (.inr hb1) (by rw [Lib.byteCells_length, List.length_append]; have := hle.out; simp; omega) hB.size).mono ?_
      rintro e w2 ⟨rfl, hb2, hB2⟩
      rw [byteCells_snoc] at hb2
      replace hB := hB.trans hB2
      clear hb1 hB2
      go_wp2
      go_roundw
      case rel => exact ⟨k + 1, by omega, rfl, .inr (by rw [htk.out]; exact hb2), hB⟩
      case measure => simp [intOf]; omega
    · obtain rfl : k = 20 := by omega
      rw [List.take_of_length_le (by omega)] at hb
      go_wp2_with (at_builtin; refine stopAt ?_)
      refine (Tryz.Builder_String_any w.heap.size (w.heap.size + 1) (hexL l) wr hb hB.size).mono ?_
      rintro e w1 ⟨rfl, hB1⟩
      replace hB := hB.trans hB1
      go_wp2
      go_ret
      exact ⟨rfl, hB⟩
end Go.Proofs.YtfabdnpeohpgnaaGreatDoor
namespace Go.Proofs.YtfabdnpeohpgnaaGreatDoor
set_option linter.all false
open Go.RowKit
theorem blob_U (l : List UInt8) (w : World) (S : Nat → Prop) (ρ : Rho) : Vl w S ρ (.blob (l.map U)) (.agg (l.map U).toArray) :=
  Vl.blob' _ fun u hu => by obtain ⟨x, _, rfl⟩ := List.mem_map.1 hu; rfl
def hexS : Spec := fun xs hp => match xs, hp with
  | [.blob cs], [] => some ⟨.str (hexL (unV cs)), [], cs = (unV cs).map U ∧ cs.length = 20⟩
  | _, _ => none
theorem hex_ok : FnOk Tryz.prog 17 hexS := by
  refine fnok_of_calls fun xs0 hp r hs hp' => ?_
  unfold hexS at hs
  split at hs
  · rename_i cs
    injection hs with hs; subst hs
    obtain ⟨p1, p2⟩ := hp'
    refine ⟨rfl, rfl, fun w S ρ args hS ha => ?_⟩
    obtain ⟨v, vs, rfl, hv, hr⟩ := ha.get _ _ rfl
    obtain rfl := hr.none
    generalize unV cs = l at *
    subst p1
    rw [hv.blob]
    refine (shaHex l (by simpa using p2) w).mono ?_
    rintro e w' ⟨rfl, hb⟩
    exact ⟨_, rfl, hb, fun w' S ρ => Vl.str' _⟩
  · cases hs
end Go.Proofs.YtfabdnpeohpgnaaGreatDoor
namespace Go.Proofs.YtfabdnpeohpgnaaGreatDoor
set_option linter.all false
def dv (c : UInt8) : Int := Lib.indexByte digs c
theorem indexB_lt (c : UInt8) : ∀ l : List UInt8, l ≠ [] → Lib.indexByte l c < (l.length : Int)
  | [], h => absurd rfl h
  | b :: l, _ => by
    unfold Lib.indexByte
    split
    · simp only [List.length_cons]; omega
    · split
      · simp only [List.length_cons]; omega
      · rename_i h1 h2
        cases l with
        | nil => simp [Lib.indexByte] at h2
        | cons b2 l2 => have := indexB_lt c (b2 :: l2) (by simp); simp at this ⊢; omega
theorem dv_lt (c : UInt8) : dv c < 16 := indexB_lt c digs (by simp [digs])
def outN (l : List UInt8) (i j : Nat) : Nat := if 2 * j + 1 < i then 16 * (dv (l.getD (2 * j) 0)).toNat + (dv (l.getD (2 * j + 1) 0)).toNat else if 2 * j < i then (dv (l.getD (2 * j) 0)).toNat else 0
theorem outN_lt (l : List UInt8) (i j : Nat) : outN l i j < 256 := by
  have h1 := dv_lt (l.getD (2 * j) 0)
  have h2 := dv_lt (l.getD (2 * j + 1) 0)
  unfold outN; split
  · omega
  · split <;> omega
def outC (l : List UInt8) (i : Nat) : Array Value := ((List.range 20).map fun j => Value.int .u8 (outN l i j : Int)).toArray
def outL (l : List UInt8) (i : Nat) : List UInt8 := (List.range 20).map fun j => UInt8.ofNat (outN l i j)
theorem outC_U (l : List UInt8) (i : Nat) : outC l i = ((outL l i).map U).toArray := by
  unfold outC outL U
  rw [List.map_map]
  congr 1
  apply List.map_congr_left
  intro j _
  have := outN_lt l i j
  simp [Nat.mod_eq_of_lt this]
theorem outC_size (l : List UInt8) (i : Nat) : (outC l i).size = 20 := by simp [outC]
theorem outC_at (l : List UInt8) (i j : Nat) (h : j < 20) : (outC l i)[j]? = some (.int .u8 (outN l i j : Int)) := by
  simp [outC, List.getElem?_range, h]
theorem outC_zero (l : List UInt8) : outC l 0 = (List.replicate 20 (Value.int .u8 0)).toArray := by
  unfold outC outN
  simp
  rfl
theorem outN_other (l : List UInt8) (i j : Nat) (h : j ≠ i / 2) : outN l (i + 1) j = outN l i j := by
  unfold outN
  by_cases h1 : 2 * j + 1 < i
  · rw [if_pos h1, if_pos (by omega)]
  · rw [if_neg h1, if_neg (by omega)]
    by_cases h2 : 2 * j < i
    · rw [if_pos h2, if_pos (by omega)]
    · rw [if_neg h2, if_neg (by omega)]
theorem outC_step (l : List UInt8) (i : Nat) (E : Int) (hE : E = (outN l (i + 1) (i / 2) : Int)) : (outC l i).setIfInBounds (i / 2) (.int .u8 E) = outC l (i + 1) := by
  apply Array.ext
  · rw [Array.size_setIfInBounds, outC_size, outC_size]
  · intro j h1 h2
    rw [outC_size] at h2
    rw [Array.size_setIfInBounds] at h1
    have e2 := outC_at l (i + 1) j h2
    have e1 := outC_at l i j h2
    rw [Array.getElem?_eq_getElem (by rw [outC_size]; exact h2), Option.some.injEq] at e1 e2
    rw [e2, Array.getElem_setIfInBounds h1]
    by_cases hj : i / 2 = j
    · rw [if_pos hj, hE, hj]
    · rw [if_neg hj, e1, outN_other l i j (fun h => hj h.symm)]
theorem outN_even (l : List UInt8) (i : Nat) (h : i % 2 = 0) : outN l i (i / 2) = 0 ∧ outN l (i + 1) (i / 2) = (dv (l.getD i 0)).toNat := by
  have e : 2 * (i / 2) = i := by omega
  unfold outN
  rw [e]
  exact ⟨by rw [if_neg (by omega), if_neg (by omega)], by rw [if_neg (by omega), if_pos (by omega)]⟩
theorem outN_odd (l : List UInt8) (i : Nat) (h : i % 2 = 1) : outN l i (i / 2) < 16 ∧ outN l (i + 1) (i / 2) = 16 * outN l i (i / 2) + (dv (l.getD i 0)).toNat := by
  have e : 2 * (i / 2) + 1 = i := by omega
  have h1 := dv_lt (l.getD (2 * (i / 2)) 0)
  unfold outN
  rw [e]
  rw [if_neg (show ¬ i < i by omega), if_pos (show 2 * (i / 2) < i by omega), if_pos (show i < i + 1 by omega)]
  exact ⟨by omega, rfl⟩
attribute [irreducible] dv outN outC outL
end Go.Proofs.YtfabdnpeohpgnaaGreatDoor
namespace Go.Proofs.YtfabdnpeohpgnaaGreatDoor
set_option linter.all false
open Go.RowKit
theorem idx_dv (c : UInt8) (w : World) : Calls Tryz.prog 43 #[.string ⟨#[48, 49, 50, 51, 52, 53, 54, 55, 56, 57, 97, 98, 99, 100, 101, 102]⟩, .int .u8 (c.toNat : Int)] w fun e w' => e = .returned (.int .i64 (dv c)) ∧ w' = w := by
  have h := Tryz.strings_IndexByte ⟨#[48, 49, 50, 51, 52, 53, 54, 55, 56, 57, 97, 98, 99, 100, 101, 102]⟩ (c.toNat : Int) w
  have e : (c.toNat : Int).toNat.toUInt8 = c := by simp
  rw [e] at h
  have e2 : dv c = Lib.indexByte ((⟨#[48, 49, 50, 51, 52, 53, 54, 55, 56, 57, 97, 98, 99, 100, 101, 102]⟩ : ByteArray).data.toList) c := by unfold dv; rfl
  rw [e2]; exact h
theorem index_str (l : List UInt8) (k : Nat) (hk : k < l.length) (w : World) : (Instr.index 9 (.string ⟨l.toArray⟩) (.int .i64 (k : Int))).run Tryz.prog w = .ok (.int .u8 ((l.getD k 0).toNat : Int)) w := by
  have e : (⟨l.toArray⟩ : ByteArray).size = l.length := rfl
  rw [run_index_string _ _ _ _ _ Tryz.underlying9, dif_pos ⟨by omega, by rw [e]; omega⟩]
  have e2 : (⟨l.toArray⟩ : ByteArray)[(k : Int).toNat]'(by rw [e]; omega) = l.getD k 0 := by
    simp only [Int.toNat_natCast]
    rw [List.getD_eq_getElem?_getD, List.getElem?_eq_getElem hk]
    rfl
  rw [e2]
theorem results_row_tmp {P : Program} {fn : Func} {p u : Tmp} {ty : TypeId} (h : fn.results = #[.cell p ty, .tmp u]) (tmps : Array Value) (w : World) (g : Nat) (t : TypeId) (cs : Array Value) (fr : Nat × Nat) (d : TypeDesc)
    (hp : tmps.getD p undef = .pointer (some ⟨g, 0, none⟩)) (hg : w.heap[g]? = some (.cells cs t fr))
    (hu : P.underlying ty = some d) (hd : (match d with | .struct _ | .array _ _ => true | _ => false) = true) (hi : (P.info? ty).map (·.size) = some cs.size) :
    (results fn tmps).run P w = .ok (.tuple #[.agg cs, tmps.getD u undef]) w := by
  rw [results_cell_tmp h, hp]
  simp [asAddr, run_loadVar_row w g t ty cs fr d hg hu hd hi]
theorem or_digF : ∀ d v : Fin 16, d.1 * 16 ||| v.1 = d.1 * 16 + v.1 := by decide +kernel
theorem or_dig (d v : Nat) (hd : d < 16) (hv : v < 16) : bits .or .u8 ((d : Int) * 16 % 256) (v : Int) = ((d * 16 + v : Nat) : Int) := by
  rw [show (d : Int) * 16 % 256 = ((d * 16 : Nat) : Int) by omega, u8_or_nat _ _ (by omega) (by omega), or_digF ⟨d, hd⟩ ⟨v, hv⟩]
theorem U_all (l : List UInt8) : ((l.map U).toArray).all (·.oneCell') = true := by
  simp [U, Value.oneCell']
theorem z20_size : z20.size = 20 := by unfold z20; simp
theorem z20_one : z20.all (·.oneCell') = true := by unfold z20; simp [Value.oneCell']
set_option maxHeartbeats 2000000 in
set_option maxRecDepth 100000 in
theorem shaParse (l : List UInt8) (w : World) (hl : l.length ≤ 1000000000) :
    Calls Tryz.prog 24 #[.string ⟨l.toArray⟩] w fun e w' => e = .returned (.tuple (if l.length = 40 ∧ ∀ c ∈ l, 0 ≤ dv c then #[.agg (outC l 40), .int .i64 0] else #[.agg z20, .int .i64 4])) ∧ Below w.heap.size w w' := by
  obtain ⟨R, hR⟩ : ∃ R, R = Value.tuple (if l.length = 40 ∧ ∀ c ∈ l, 0 ≤ dv c then #[.agg (outC l 40), .int .i64 0] else #[.agg z20, .int .i64 4]) := ⟨_, rfl⟩
  rw [← hR]
  have HR := hide hR
  clear hR
  have hz := zero20
  have hzs := z20_size
  have hS := ((Sep.start w).allocC z20 27).allocC z20 27
  rw [World.size_alloc] at hS
  simp only [List.cons_append, List.nil_append, List.set_cons_zero, List.set_cons_succ, List.map_cons, List.map_nil, List.getD_cons_zero, List.getD_cons_succ, Array.toList] at hS
  have hlc : (⟨l.toArray⟩ : ByteArray).size = l.length := rfl
  go_enter Tryz.func24, Tryz.ntmps24
  by_cases h40 : l.length = 40
  · go_wp2
    have hzc : z20 = outC l 0 := by rw [outC_zero]; rfl
    have hS2 : Sep w.heap.size w ((w.alloc (.cells z20 27)).alloc (.cells z20 27)) [.blk w.heap.size 27 z20, .blk (w.heap.size + 1) 27 (outC l 0)] := by rw [← hzc]; exact hS
    clear hS hzc
    go_loopw [13] (fun i wr => ∃ k : Nat, k ≤ 40 ∧ i = .int .i64 k ∧ (∀ c ∈ l.take k, 0 ≤ dv c) ∧ Sep w.heap.size w wr [.blk w.heap.size 27 z20, .blk (w.heap.size + 1) 27 (outC l k)])
      (fun i _ => 40 - (intOf i).toNat)
    case atStart => exact ⟨0, by omega, rfl, (fun c hc => by simp at hc), hS2⟩
    case round =>
      clear hS2
      obtain ⟨k, hk, rfl, hval, hS⟩ := hrel
      by_cases hlt : k < 40
      · have hlt' : (k : Int) < (l.length : Int) := by omega
        have hx := index_str l k (by omega)
        have hmem : l.getD k 0 ∈ l := by
          rw [List.getD_eq_getElem?_getD, List.getElem?_eq_getElem (by omega)]; exact List.getElem_mem _
        have htk : l.take (k + 1) = l.take k ++ [l.getD k 0] := by
          rw [List.take_succ, List.getElem?_eq_getElem (by omega), List.getD_eq_getElem?_getD, List.getElem?_eq_getElem (by omega)]; rfl
        have hE := outN_even l k
        have hO := outN_odd l k
        have hstep := outC_step l k
        obtain ⟨c, hc⟩ : ∃ c, l.getD k 0 = c := ⟨_, rfl⟩
        rw [hc] at hx hmem htk hE hO
        have hvl := dv_lt c
        go_wp2_with (at_builtin; refine stopAt ?_)
        refine (idx_dv c wr).mono ?_
        rintro e w2 ⟨rfl, rfl⟩
        by_cases hv : dv c < 0
        · have hno : ¬ (l.length = 40 ∧ ∀ c ∈ l, 0 ≤ dv c) := fun h => by have := h.2 c hmem; omega
          have Hno := hide hno
          clear hno hE hO hstep hval htk hmem
          go_wp2_with (with_reducible refine wpList_stopStore (ty := 27) (x := .tmp 2) (y := .tmp 22) rfl ?_)
          refine unstop (wpList_store_rowS hS 0 rfl rfl 27 (.tmp 2) (.tmp 22) rfl rfl rfl (by rw [hzs]; exact info20) rfl z20_one ?_)
          clear hS
          intro w2 hS
          simp only [List.cons_append, List.nil_append, List.set_cons_zero, List.set_cons_succ, List.map_cons, List.map_nil, List.getD_cons_zero, List.getD_cons_succ, Array.toList] at hS
          have hb0 := hS.blk 0 rfl
          have hbl := hS.below
          go_wp2
          refine ⟨by simp, _, ?_, (by rw [HR.out, if_neg Hno.out]), hbl⟩
          refine results_row_tmp (p := 2) (u := 3) rfl _ w2 w.heap.size 27 _ (0, 0) _ ?_ hb0 Tryz.underlying27 rfl (by rw [hzs]; exact info20)
          rfl
        · obtain ⟨v, hv2⟩ : ∃ v : Nat, dv c = v := ⟨(dv c).toNat, by omega⟩
          have hv16 : v < 16 := by omega
          have hv0 : ¬ (v : Int) < 0 := by omega
          rw [hv2]
          have g1 : w2.cell? ⟨w.heap.size + 1, k / 2, none⟩ = some (.int .u8 (outN l k (k / 2) : Int)) := hS.cell 1 (k / 2) rfl (outC_at l k (k / 2) (by omega))
          have f1 := hS.frozen 1 (k / 2) rfl
          have hE2 : bits .or .u8 ((outN l k (k / 2) : Int) * 16 % 256) (v : Int) = (outN l (k + 1) (k / 2) : Int) := by
            rcases Nat.mod_two_eq_zero_or_one k with h2 | h2
            · obtain ⟨a1, a2⟩ := hE h2
              have h3 := or_dig 0 v (by omega) hv16
              rw [Nat.zero_mul, Nat.zero_add] at h3
              rw [a1, a2, hv2, Int.toNat_natCast]
              exact h3
            · obtain ⟨a1, a2⟩ := hO h2
              rw [a2, hv2, or_dig _ v a1 hv16]
              simp; omega
          replace hE2 := hide hE2
          have hst := hide (hstep _ hE2.out)
          clear hE hO hstep
          go_wp2
          go_roundw
          case rel =>
            refine ⟨k + 1, by omega, by simp, fun x hx => ?_, (hS.store 1 (j := k / 2) rfl _).cast ?_⟩
            · rw [htk, List.mem_append, List.mem_singleton] at hx
              rcases hx with hx | rfl
              · exact hval x hx
              · omega
            · simp only [List.set_cons_succ, List.set_cons_zero]
              rw [hst.out]
          case measure => simp [intOf]; omega
      · obtain rfl : k = 40 := by omega
        rw [List.take_of_length_le (by omega)] at hval
        have hyes := hide (show l.length = 40 ∧ ∀ c ∈ l, 0 ≤ dv c from ⟨h40, hval⟩)
        clear hval
        go_wp2_with (with_reducible refine wpList_stopLoad (ty := 27) (x := .tmp 4) rfl ?_)
        refine unstop (wpList_load_row rfl 27 (.tmp 4) rfl (w.heap.size + 1) rfl 27 (outC l 40) (0, 0) _ (hS.blk 1 rfl) Tryz.underlying27 rfl (by rw [outC_size]; exact info20) ?_)
        refine wpList_store_rowS hS 0 rfl rfl 27 (.tmp 2) (.tmp 35) rfl rfl rfl (by rw [outC_size]; exact info20) (by rw [outC_size, hzs]) (by rw [outC_U]; exact U_all _) ?_
        clear hS
        intro w2 hS
        simp only [List.cons_append, List.nil_append, List.set_cons_zero, List.set_cons_succ, List.map_cons, List.map_nil, List.getD_cons_zero, List.getD_cons_succ, Array.toList] at hS
        have hb0 := hS.blk 0 rfl
        have hbl := hS.below
        go_wp2
        refine ⟨by simp, _, ?_, (by rw [HR.out, if_pos hyes.out]), hbl⟩
        refine results_row_tmp (p := 2) (u := 3) rfl _ w2 w.heap.size 27 _ (0, 0) _ ?_ hb0 Tryz.underlying27 rfl (by rw [outC_size]; exact info20)
        rfl
  · have HR2 := hide (HR.out.trans (by rw [if_neg (fun h => h40 h.1)]))
    clear HR
    have hne : ((l.length : Int) != 40) = true := by rw [bne_iff_ne]; omega
    go_wp2_with (with_reducible refine wpList_stopStore (ty := 27) (x := .tmp 2) (y := .tmp 10) rfl ?_)
    refine unstop (wpList_store_rowS hS 0 rfl rfl 27 (.tmp 2) (.tmp 10) rfl rfl rfl (by rw [hzs]; exact info20) rfl z20_one ?_)
    clear hS
    intro w2 hS
    simp only [List.cons_append, List.nil_append, List.set_cons_zero, List.set_cons_succ, List.map_cons, List.map_nil, List.getD_cons_zero, List.getD_cons_succ, Array.toList] at hS
    have hb0 := hS.blk 0 rfl
    go_wp2
    have hbl := hS.below
    refine ⟨by simp, _, ?_, (by rw [HR2.out]), hbl⟩
    refine results_row_tmp (p := 2) (u := 3) rfl _ w2 w.heap.size 27 _ (0, 0) _ ?_ hb0 Tryz.underlying27 rfl (by rw [hzs]; exact info20)
    rfl
end Go.Proofs.YtfabdnpeohpgnaaGreatDoor
namespace Go.Proofs.YtfabdnpeohpgnaaGreatDoor
set_option linter.all false
open Go.RowKit
def goodQ (l : List UInt8) : Bool := decide (l.length = 40 ∧ ∀ c ∈ l, 0 ≤ dv c)
def pOut (l : List UInt8) : List UInt8 := if goodQ l = true then outL l 40 else List.replicate 20 0
def pErr (l : List UInt8) : Int := if goodQ l = true then 0 else 4
def parseS : Spec := fun xs hp => match xs, hp with
  | [.str l], [] => some ⟨.tup [.blob ((pOut l).map U), .int .i64 (pErr l)], [], l.length ≤ 1000000000⟩
  | _, _ => none
theorem parse_ok : FnOk Tryz.prog 24 parseS := by
  refine fnok_of_calls fun xs0 hp r hs hp' => ?_
  unfold parseS at hs
  split at hs
  · rename_i l
    injection hs with hs; subst hs
    refine ⟨rfl, rfl, fun w S ρ args hS ha => ?_⟩
    obtain ⟨v, vs, rfl, hv, hr⟩ := ha.get _ _ rfl
    obtain rfl := hr.none
    rw [hv.str]
    refine (shaParse l w hp').mono ?_
    rintro e w' ⟨rfl, hb⟩
    refine ⟨_, rfl, hb, fun w' S ρ => ?_⟩
    have hz : (List.replicate 20 (0 : UInt8)).map U = List.replicate 20 (.int .u8 0) := rfl
    unfold pOut pErr
    by_cases hg : l.length = 40 ∧ ∀ c ∈ l, 0 ≤ dv c
    · have hg' : goodQ l = true := decide_eq_true hg
      rw [if_pos hg, if_pos hg', if_pos hg', outC_U]
      exact ⟨[_, _], rfl, rfl, fun i hi => by
        match i, hi with
        | 0, _ => exact blob_U _ _ _ _
        | 1, _ => exact Vl.int' _ _⟩
    · have hg' : ¬ goodQ l = true := by unfold goodQ; simpa using hg
      rw [if_neg hg, if_neg hg', if_neg hg', hz]
      exact ⟨[_, _], rfl, rfl, fun i hi => by
        match i, hi with
        | 0, _ => exact Vl.blob' (List.replicate 20 (.int .u8 0)) (by simp [Value.oneCell'])
        | 1, _ => exact Vl.int' _ _⟩
  · cases hs
end Go.Proofs.YtfabdnpeohpgnaaGreatDoor
namespace Go.Proofs.YtfabdnpeohpgnaaGreatDoor
set_option linter.all false
open Go.RowKit
def c_digit : ACode := (.seq (.reg none [⟨(some 2), (.mv (.c (.int .u8 0))), none⟩]) (.seq (.seq (.reg none [⟨(some 3), (.mv (.t 0)), none⟩, ⟨(some 4), (.bin .lss (.t 3) (.c (.int .i64 10))), none⟩]) (.cond (.t 4) (.seq (.reg none [⟨(some 5), (.mv (.t 0)), none⟩, ⟨(some 6), (.bin .add (.c (.int .i64 48)) (.t 5)), none⟩, ⟨(some 7), (.toInt .u8 (.t 6)), none⟩, ⟨(some 2), (.mv (.t 7)), none⟩]) .ret) .skip)) (.seq (.reg none [⟨(some 8), (.mv (.t 0)), none⟩, ⟨(some 9), (.bin .add (.c (.int .i64 87)) (.t 8)), none⟩, ⟨(some 10), (.toInt .u8 (.t 9)), none⟩, ⟨(some 2), (.mv (.t 10)), none⟩]) .ret)))
def r_digit : List ARes := [(.t 2)]
theorem s_digit : slimF Tryz.prog Tryz.f42 = some (c_digit, r_digit) := by kernel_rfl
def digN (n : Int) : Int := if n < 10 then 48 + n else 87 + n
def digitS : Spec := fun xs hp => match xs, hp with
  | [.int .i64 n], [] => some ⟨.int .u8 (digN n), [], 0 ≤ n ∧ n < 16⟩
  | _, _ => none
theorem digit_ok : FnOk Tryz.prog 42 digitS := by
  refine fn_slim Tryz.func42 s_digit (Φ := phiL []) phi_nil ?_
  intro xs hp r hs hp'
  unfold digitS at hs
  split at hs
  · injection hs with hs; subst hs
    rename_i n
    refine ⟨len_le (by kernel_rfl), ?_⟩
    obtain ⟨p1, p2⟩ := hp'
    simp only [c_digit, r_digit, awp_scope, noG_n, noG_r, noG_x, awp_skip, awp_reg, awp_draw, awp_seq, awp_cond, awp_block, awp_loop, awp_exit, awp_ret, arun_nil, arun_op, arun_gt, arun_gf, arunD_nil, arunD_op, arunD_gt, arunD_gf, aq_some, isB_t, isB_u, isB_f, isB_g, isB_p, isU_t, isU_b, ifB_t, ifB_f, thenQ_n, thenQ_x, thenQ_r, inQ_n, inQ_r, inQ_x, retQ_n, retQ_r, exD, AOp.isH, keepN, preB, avalP, pureR, astep, stV, stN, stE, stC, aval, anew, aElems, frzS, frzH, aeff, slots, aret, ares, aress, AV.isTup, eqFs, aEqS, ofC_i, ofC_b, ofC_s, ofC_U, getD_mapU, getD_Bs, Bs_len, Int.toNat_natCast, opd, pt, tk, subp, rdP, Rt.size, Rt.isAgg, Rt.zv, aBin, aInt, aStr, arI, aUn, aToInt, aToStr, aIdxS, zv, aIdxA, aIa, aIaA, aFa, aLd, aFld, pparts, aLo, aHi, cutL, aSlS, aSl, aExt, aNck, aNilc, AV.isStr, aLen, AV.one, AV.multi, pureB, szOk, psz, drp, spl, aEqB, aEqA, aMm, aMkfn, aMkif, aBuild, toV, aBuildA, wrP, unparts, view, nilS, St.ev, lk, St.put, St.pin, St.pinV, acall0, acall1, acall2, acall3, bor, bor0, bor1, phiL_nil, phiL_at, tau, lentO, okIds, flatC, flatB, flatOs, flatO, flatPs, place, setAll_nil, setAll_cons, nodupB, renObj, closeIds, addNew, idsOf, idsObj, posOf, lenOk_0, lenOk_1, lenOk_2, lenOk_3, lenOk_4, lenOk_8, ↓reduceIte, Option.isSome_none, Option.isSome_some, Bool.or_true, Bool.true_or,  Nat.reduceEqDiff, Nat.reduceBEq, Nat.reduceSub, Nat.reduceLT, beq_self_eq_true, List.map, List.set, List.map_cons, List.map_nil, List.flatMap_cons, List.flatMap_nil, List.flatten_cons, List.flatten_nil, true_and, and_true, List.length_cons, List.length_nil, Nat.reduceAdd, Nat.reduceLeDiff, List.nil_append, List.cons_append, List.append_nil, Option.map, mapO, ren, kp, kpI, ent, nilG, Option.bind, List.range, List.range.loop, List.getElem?_cons_zero, List.getElem?_cons_succ, List.getElem?_nil, List.getD_cons_zero, List.getD_cons_succ, List.drop_zero, List.drop_succ_cons, List.drop_nil, List.take_zero, List.take_succ_cons, List.all_cons, List.all_nil, List.isEmpty_nil, List.isEmpty_cons, Bool.and_true, Bool.true_and, Bool.not_true, Bool.not_false, List.contains_nil, reduceCtorEq, List.contains_cons, Bool.or_false, Bool.false_or, eq_self, forall_const, false_implies, Bool.false_eq_true, Nat.le_refl, List.length_map, List.length_set, List.length_replicate, and_self, implies_true]
    simp only [inI, digN, Bool.false_eq_true, renObj, finP, finI, closeIds, addNew, idsOf, List.flatMap_nil, List.flatMap_cons, List.append_nil, List.nil_append, List.take_zero, nodupB, posOf, idsObj, List.getD_cons_zero, List.getD_cons_succ, List.range, List.range.loop, ren, lentO, mapO, Option.map, ↓reduceIte, Nat.reduceEqDiff, true_and, and_true, List.getElem?_cons_zero, List.getElem?_cons_succ, Nat.reduceAdd, List.contains_nil, Bool.not_false, Bool.and_true, List.map_nil, List.map_cons, List.take_succ_cons]
    refine ⟨fun h => ?_, fun h => ?_⟩
    · have := of_decide_eq_true h
      rw [if_pos this]
      exact ⟨by omega, congrArg some (congrArg (AV.int .u8) (wrap8 (by omega) (by omega)))⟩
    · have := of_decide_eq_false h
      rw [if_neg this]
      exact ⟨by omega, congrArg some (congrArg (AV.int .u8) (wrap8 (by omega) (by omega)))⟩
  · cases hs
def b_rhex_0 : ACode := (.seq (.seq (.reg none [⟨(some 5), (.mv (.t 4)), none⟩, ⟨(some 6), (.bin .lss (.t 5) (.c (.int .i64 20))), none⟩]) (.cond (.t 6) .skip (.exit 0))) (.seq (.block 1 (.reg (some [(0, false), (1, false), (2, false), (3, false), (4, false), (5, false), (6, false), (6, false), (6, false), (6, false), (6, false), (6, false), (12, false), (13, false), (14, true), (15, true)]) [⟨(some 9), (.mv (.t 3)), none⟩, ⟨(some 10), (.mv (.t 4)), none⟩, ⟨(some 11), (.iaA 20 (.t 1) (.t 10)), none⟩, ⟨(some 12), (.ld (.one (.int .u8 0)) (.t 11)), none⟩, ⟨(some 13), (.toInt .i64 (.t 12)), none⟩, ⟨(some 14), (.bin .quo (.t 13) (.c (.int .i64 16))), none⟩, ⟨(some 15), (.call 42 [(.t 14)]), none⟩, ⟨(some 16), (.mv (.t 4)), none⟩, ⟨(some 17), (.iaA 20 (.t 1) (.t 16)), none⟩, ⟨(some 18), (.ld (.one (.int .u8 0)) (.t 17)), none⟩, ⟨(some 19), (.toInt .i64 (.t 18)), none⟩, ⟨(some 20), (.bin .rem (.t 19) (.c (.int .i64 16))), none⟩, ⟨(some 21), (.call 42 [(.t 20)]), none⟩, ⟨(some 22), (.buildSl 5 1 [(.t 15), (.t 21)]), none⟩, ⟨(some 23), (.app 5 1 1 (.t 9) (.t 22)), none⟩, ⟨(some 3), (.mv (.t 23)), none⟩])) (.reg none [⟨(some 7), (.mv (.t 4)), none⟩, ⟨(some 8), (.bin .add (.t 7) (.c (.int .i64 1))), none⟩, ⟨(some 4), (.mv (.t 8)), none⟩])))
def c_rhex : ACode := (.seq (.reg none [⟨(some 1), (.box 22 20 (.t 0)), none⟩, ⟨(some 2), (.mv (.c (.str []))), none⟩]) (.seq (.reg none [⟨(some 3), (.mv (.c (.con (.slice none 0 0)))), none⟩]) (.seq (.seq (.reg none [⟨(some 4), (.mv (.c (.int .i64 0))), none⟩]) (.block 0 (.loop b_rhex_0))) (.seq (.reg none [⟨(some 24), (.mv (.t 3)), none⟩, ⟨(some 25), (.toStr (.t 24)), none⟩, ⟨(some 2), (.mv (.t 25)), none⟩]) .ret))))
def r_rhex : List ARes := [(.t 2)]
theorem s_rhex : slimF Tryz.prog Tryz.f21 = some (c_rhex, r_rhex) := by kernel_rfl
def hexI (l : List UInt8) : List UInt8 := l.flatMap fun u => [UInt8.ofNat (digN (u.toNat / 16)).toNat, UInt8.ofNat (digN (u.toNat % 16)).toNat]
theorem hexI_len (l : List UInt8) : (hexI l).length = 2 * l.length := by
  unfold hexI
  induction l with
  | nil => rfl
  | cons u l ih => rw [List.flatMap_cons, List.length_append, ih]; simp; omega
theorem hexI_append (l m : List UInt8) : hexI (l ++ m) = hexI l ++ hexI m := List.flatMap_append
theorem digN_le {n : Int} (h : 0 ≤ n) (h' : n < 16) : 0 ≤ digN n ∧ digN n < 256 := by unfold digN; split <;> omega
def rhexS : Spec := fun xs hp => match xs, hp with
  | [.blob cs], [] => some ⟨.str (hexI (unV cs)), [], cs = (unV cs).map U ∧ cs.length = 20⟩
  | _, _ => none
theorem rhex_ok : FnOk Tryz.prog 21 rhexS := by
  refine fn_slim Tryz.func21 s_rhex (Φ := phiL [(42, [], digitS)]) (phi_cons digit_ok (by kernel_rfl) phi_nil) ?_
  intro xs hp r hs hp'
  unfold rhexS at hs
  split at hs
  · injection hs with hs; subst hs
    rename_i cs
    refine ⟨len_le (by kernel_rfl), ?_⟩
    obtain ⟨p1, p2⟩ := hp'
    generalize hl : unV cs = l at *
    subst p1
    have hl : l.length = 20 := by simpa using p2
    simp only [c_rhex, r_rhex, awp_scope, noG_n, noG_r, noG_x, awp_skip, awp_reg, awp_draw, awp_seq, awp_cond, awp_block, awp_loop, awp_exit, awp_ret, arun_nil, arun_op, arun_gt, arun_gf, arunD_nil, arunD_op, arunD_gt, arunD_gf, aq_some, isB_t, isB_u, isB_f, isB_g, isB_p, isU_t, isU_b, ifB_t, ifB_f, thenQ_n, thenQ_x, thenQ_r, inQ_n, inQ_r, inQ_x, retQ_n, retQ_r, exD, AOp.isH, keepN, preB, avalP, pureR, astep, stV, stN, stE, stC, aval, anew, aElems, frzS, frzH, aeff, slots, aret, ares, aress, AV.isTup, eqFs, aEqS, ofC_i, ofC_b, ofC_s, ofC_U, getD_mapU, getD_Bs, Bs_len, Int.toNat_natCast, opd, pt, tk, subp, rdP, Rt.size, Rt.isAgg, Rt.zv, aBin, aInt, aStr, arI, aUn, aToInt, aToStr, aIdxS, zv, aIdxA, aIa, aIaA, aFa, aLd, aFld, pparts, aLo, aHi, cutL, aSlS, aSl, aExt, aNck, aNilc, AV.isStr, aLen, AV.one, AV.multi, pureB, szOk, psz, drp, spl, aEqB, aEqA, aMm, aMkfn, aMkif, aBuild, toV, aBuildA, wrP, unparts, view, nilS, St.ev, lk, St.put, St.pin, St.pinV, acall0, acall1, acall2, acall3, bor, bor0, bor1, phiL_nil, phiL_at, tau, lentO, okIds, flatC, flatB, flatOs, flatO, flatPs, place, setAll_nil, setAll_cons, nodupB, renObj, closeIds, addNew, idsOf, idsObj, posOf, lenOk_0, lenOk_1, lenOk_2, lenOk_3, lenOk_4, lenOk_8, ↓reduceIte, Option.isSome_none, Option.isSome_some, Bool.or_true, Bool.true_or,  Nat.reduceEqDiff, Nat.reduceBEq, Nat.reduceSub, Nat.reduceLT, beq_self_eq_true, List.map, List.set, List.map_cons, List.map_nil, List.flatMap_cons, List.flatMap_nil, List.flatten_cons, List.flatten_nil, true_and, and_true, List.length_cons, List.length_nil, Nat.reduceAdd, Nat.reduceLeDiff, List.nil_append, List.cons_append, List.append_nil, Option.map, mapO, ren, kp, kpI, ent, nilG, Option.bind, List.range, List.range.loop, List.getElem?_cons_zero, List.getElem?_cons_succ, List.getElem?_nil, List.getD_cons_zero, List.getD_cons_succ, List.drop_zero, List.drop_succ_cons, List.drop_nil, List.take_zero, List.take_succ_cons, List.all_cons, List.all_nil, List.isEmpty_nil, List.isEmpty_cons, Bool.and_true, Bool.true_and, Bool.not_true, Bool.not_false, List.contains_nil, reduceCtorEq, List.contains_cons, Bool.or_false, Bool.false_or, eq_self, forall_const, false_implies, Bool.false_eq_true, Nat.le_refl, List.length_map, List.length_set, List.length_replicate, and_self, implies_true]
    refine ⟨hl, ?_⟩
    refine loop_at [(3, 5, 1)] [1, 3, 4] [0, 1] (fun k : Nat => ⟨[(1, .ref 0 0 0), (3, .own 1 k), (4, .int .i64 k)], [.cells 22 [(20, .blob (l.map U))], .row 5 1 k (Bs (hexI (l.take k)))]⟩) (fun k => k ≤ 20) (fun k => 20 - k) 0 rfl (by omega) ⟨rfl, rfl⟩ (fun k hk => ?_)
    simp only [b_rhex_0, digitS, awp_scope, noG_n, noG_r, noG_x, awp_skip, awp_reg, awp_draw, awp_seq, awp_cond, awp_block, awp_loop, awp_exit, awp_ret, arun_nil, arun_op, arun_gt, arun_gf, arunD_nil, arunD_op, arunD_gt, arunD_gf, aq_some, isB_t, isB_u, isB_f, isB_g, isB_p, isU_t, isU_b, ifB_t, ifB_f, thenQ_n, thenQ_x, thenQ_r, inQ_n, inQ_r, inQ_x, retQ_n, retQ_r, exD, AOp.isH, keepN, preB, avalP, pureR, astep, stV, stN, stE, stC, aval, anew, aElems, frzS, frzH, aeff, slots, aret, ares, aress, AV.isTup, eqFs, aEqS, ofC_i, ofC_b, ofC_s, ofC_U, getD_mapU, getD_Bs, Bs_len, Int.toNat_natCast, opd, pt, tk, subp, rdP, Rt.size, Rt.isAgg, Rt.zv, aBin, aInt, aStr, arI, aUn, aToInt, aToStr, aIdxS, zv, aIdxA, aIa, aIaA, aFa, aLd, aFld, pparts, aLo, aHi, cutL, aSlS, aSl, aExt, aNck, aNilc, AV.isStr, aLen, AV.one, AV.multi, pureB, szOk, psz, drp, spl, aEqB, aEqA, aMm, aMkfn, aMkif, aBuild, toV, aBuildA, wrP, unparts, view, nilS, St.ev, lk, St.put, St.pin, St.pinV, acall0, acall1, acall2, acall3, bor, bor0, bor1, phiL_nil, phiL_at, tau, lentO, okIds, flatC, flatB, flatOs, flatO, flatPs, place, setAll_nil, setAll_cons, nodupB, renObj, closeIds, addNew, idsOf, idsObj, posOf, lenOk_0, lenOk_1, lenOk_2, lenOk_3, lenOk_4, lenOk_8, ↓reduceIte, Option.isSome_none, Option.isSome_some, Bool.or_true, Bool.true_or,  Nat.reduceEqDiff, Nat.reduceBEq, Nat.reduceSub, Nat.reduceLT, beq_self_eq_true, List.map, List.set, List.map_cons, List.map_nil, List.flatMap_cons, List.flatMap_nil, List.flatten_cons, List.flatten_nil, true_and, and_true, List.length_cons, List.length_nil, Nat.reduceAdd, Nat.reduceLeDiff, List.nil_append, List.cons_append, List.append_nil, Option.map, mapO, ren, kp, kpI, ent, nilG, Option.bind, List.range, List.range.loop, List.getElem?_cons_zero, List.getElem?_cons_succ, List.getElem?_nil, List.getD_cons_zero, List.getD_cons_succ, List.drop_zero, List.drop_succ_cons, List.drop_nil, List.take_zero, List.take_succ_cons, List.all_cons, List.all_nil, List.isEmpty_nil, List.isEmpty_cons, Bool.and_true, Bool.true_and, Bool.not_true, Bool.not_false, List.contains_nil, reduceCtorEq, List.contains_cons, Bool.or_false, Bool.false_or, eq_self, forall_const, false_implies, Bool.false_eq_true, Nat.le_refl, List.length_map, List.length_set, List.length_replicate, and_self, implies_true]
    refine ⟨fun h => ?_, fun h => ?_⟩
    · have hk := of_decide_eq_true h
      have hu := (l.getD k 0).toNat_lt
      have hk' : k < 20 := by omega
      rw [Int.tdiv_eq_ediv_of_nonneg (by omega), Int.tmod_eq_emod_of_nonneg (by omega)]
      have hlen : (hexI (l.take k)).length ≤ 40 := by rw [hexI_len, List.length_take]; omega
      simp only [inI, lenOk, bytesOk, IntKind.bits, Bs, List.length_append, List.length_map, List.length_cons, List.length_nil]
      refine ⟨by omega, by omega, by omega, ⟨by omega, by omega⟩, by omega, by omega, by omega, by omega, by omega, by omega, by omega, ⟨by omega, by omega⟩, k + 1, by omega, by omega, ?_⟩
      rw [take_succ' (by omega), hexI_append, List.map_append]
      simp only [hexI, List.flatMap_cons, List.flatMap_nil, List.append_nil, List.map_cons, List.map_nil]
      rw [ub_int (digN_le (by omega) (by omega)).1 (digN_le (by omega) (by omega)).2, ub_int (digN_le (by omega) (by omega)).1 (digN_le (by omega) (by omega)).2]
      rfl
    · have hk := of_decide_eq_false h
      rw [List.take_of_length_le (by omega)]
      simp only [Bool.false_eq_true, renObj, finP, finI, closeIds, addNew, idsOf, List.flatMap_nil, List.flatMap_cons, List.append_nil, List.nil_append, List.take_zero, nodupB, posOf, idsObj, List.getD_cons_zero, List.getD_cons_succ, List.range, List.range.loop, ren, lentO, mapO, Option.map, ↓reduceIte, Nat.reduceEqDiff, true_and, and_true, List.getElem?_cons_zero, List.getElem?_cons_succ, Nat.reduceAdd, List.contains_nil, Bool.not_false, Bool.and_true, List.map_nil, List.map_cons, List.take_succ_cons, unB_Bs]
  · cases hs
end Go.Proofs.YtfabdnpeohpgnaaGreatDoor
namespace Go.Proofs.YtfabdnpeohpgnaaGreatDoor
set_option linter.all false
open Go.RowKit
theorem digN_digs : ∀ k : Fin 16, digN (k.1 : Int) = ((digs.getD k.1 0).toNat : Int) := by decide
theorem hexI_eq : ∀ l : List UInt8, hexI l = hexL l
  | [] => rfl
  | u :: l => by
    have hu := u.toNat_lt
    have h1 := digN_digs ⟨u.toNat / 16, by omega⟩
    have h2 := digN_digs ⟨u.toNat % 16, by omega⟩
    simp only at h1 h2
    have ih := hexI_eq l
    unfold hexI at ih ⊢
    rw [List.flatMap_cons, ih, hexL, show (u.toNat : Int) / 16 = ((u.toNat / 16 : Nat) : Int) by omega, show (u.toNat : Int) % 16 = ((u.toNat % 16 : Nat) : Int) by omega, h1, h2]
    simp only [Int.toNat_natCast, UInt8.ofNat_toNat, List.cons_append, List.nil_append]
end Go.Proofs.YtfabdnpeohpgnaaGreatDoor
