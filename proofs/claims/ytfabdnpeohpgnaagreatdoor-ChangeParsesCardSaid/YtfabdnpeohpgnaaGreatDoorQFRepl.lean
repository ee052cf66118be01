import Derived.Test.YtfabdnpeohpgnaaGreatDoorQRParse2
import Derived.Test.YtfabdnpeohpgnaaGreatDoorQFGVal
import Derived.Lib.ReplaceLaws
import Derived.Test.YtfabdnpeohpgnaaGreatDoorQFRight
import Derived.Test.YtfabdnpeohpgnaaGreatDoorQFRChg1
import Derived.Test.YtfabdnpeohpgnaaGreatDoorQFRight2
import Derived.Test.YtfabdnpeohpgnaaGreatDoorQShelf
namespace Go.Proofs.YtfabdnpeohpgnaaGreatDoor
set_option linter.all false
open Go.RowKit
open Go.Lib (index replaceAll)
theorem contains_1 (s : List UInt8) (c : UInt8) : Lib.contains s [c] = s.contains c := by
  unfold Lib.contains
  rw [Bool.eq_iff_iff]
  rcases Lib.index_spec s [c] with h1 | ⟨i, h1, h2, h3, h4⟩
  · have hn : c ∉ s := by
      intro hm
      obtain ⟨a, b, rfl, _⟩ := mem_split hm
      have := h1.2 a.length (by simp)
      rw [show a ++ c :: b = a ++ ([c] ++ b) from rfl, occAt_append] at this
      cases this
    have e : index s [c] = -1 := h1.1
    simp [e, hn]
  · have hm := List.mem_of_getElem? (occAt_1 h3)
    simp [h1, hm]
def containsS : Spec := fun xs hp => match xs, hp with
  | [.str s, .str [c]], [] => some ⟨.bool (s.contains c), [], s.length ≤ 1000000⟩
  | _, _ => none
theorem contains_ok : FnOk Tryz.prog 35 containsS := by
  refine fnok_of_calls fun xs0 hp r hs hp' => ?_
  unfold containsS at hs
  split at hs
  · rename_i s c
    injection hs with hs; subst hs
    have p1 : s.length ≤ 1000000 := hp'
    refine ⟨rfl, rfl, fun w S ρ args hS ha => ?_⟩
    obtain ⟨v, vs, rfl, hv, hr⟩ := ha.get _ _ rfl
    obtain ⟨u, us, rfl, hu, hr⟩ := hr.get _ _ rfl
    obtain rfl := hr.none
    rw [hv.str, hu.str]
    obtain ⟨m, hm⟩ := maxLen_cell ha.glob
    refine (Tryz.strings_Contains ⟨s.toArray⟩ ⟨[c].toArray⟩ m w (show s.length < 4294967281 by omega) hm).mono ?_
    rintro e w' ⟨rfl, rfl⟩
    refine ⟨_, rfl, Below.refl _ _, fun _ _ _ => ?_⟩
    show Vl _ _ _ (.bool (s.contains c)) (.bool (Lib.contains s [c]))
    rw [contains_1]
    exact Vl.bool' _
  · cases hs
end Go.Proofs.YtfabdnpeohpgnaaGreatDoor
namespace Go.Proofs.YtfabdnpeohpgnaaGreatDoor
set_option linter.all false
open Go.RowKit
open Go.Lib (index hasPrefix trimPrefix cut indexAny itoa)
theorem ascB_snoc : ∀ (l : List (List UInt8)) (x : List UInt8), ascB (l ++ [x]) = (ascB l && (l.getLast?.all fun y => Op.bytesLess y x))
  | [], x => rfl
  | [a], x => by simp [ascB]
  | a :: b :: r, x => by
    have ih := ascB_snoc (b :: r) x
    rw [List.cons_append, List.cons_append, ascB, ← List.cons_append, ih, ascB, Bool.and_assoc]
    simp
theorem ascB_take : ∀ (l : List (List UInt8)) (k : Nat), ascB l = true → ascB (l.take k) = true
  | [], k, h => by simp [ascB]
  | [a], k, h => by cases k <;> simp [ascB]
  | a :: b :: r, k, h => by
    rw [ascB, Bool.and_eq_true] at h
    match k with
    | 0 => rfl
    | 1 => rfl
    | k + 2 =>
      have ih := ascB_take (b :: r) (k + 1) h.2
      rw [List.take_succ_cons, List.take_succ_cons] at *
      rw [ascB, h.1, ih]; rfl
theorem asc_step (l : List (List UInt8)) {i : Nat} (h : i < l.length) : ascB (l.take (i + 1)) = (ascB (l.take i) && (decide (i = 0) || Op.bytesLess (l.getD (i - 1) []) l[i])) := by
  rw [List.take_add_one, List.getElem?_eq_getElem h, Option.toList_some, ascB_snoc]
  congr 1
  cases i with
  | zero => simp
  | succ i =>
    have : (l.take (i + 1)).getLast? = some (l.getD i []) := by
      rw [List.take_add_one, List.getElem?_eq_getElem (by omega), Option.toList_some, List.getLast?_append]
      simp [List.getD_eq_getElem?_getD, List.getElem?_eq_getElem (show i < l.length by omega)]
    rw [this]; simp
def grightS : Spec := fun xs hp => match xs, hp with
  | [.agg [(20, .blob m), (1, .str u), (1, .int .i64 t), (1, .int .i64 z), (1, .sl ke es), (1, .sl kf fs), (1, .str d)]], [] =>
    some ⟨.bool (rightH ⟨unV m, u, t, z, es.map unEx, fs.map unS, d⟩), [], es = (es.map unEx).map exV ∧ fs = (fs.map unS).map AV.str ∧ (ke = 2 ∨ es = []) ∧ (kf = 1 ∨ fs = []) ∧ es.length ≤ 1000000 ∧ fs.length ≤ 1000000 ∧
      (∀ x ∈ es.map unEx, x.1.length ≤ 1000000000) ∧ (∀ f ∈ fs.map unS, f.length ≤ 1000000000) ∧ u.length ≤ 1000000⟩
  | _, _ => none
def phiGR : Phi := phiL [(33, [], gkeyedS), (34, [], nrightS), (35, [], containsS)]
theorem phiGR_ok : PhiOk Tryz.prog phiGR := phi_cons gkeyed_ok (by kernel_rfl) (phi_cons nright_ok (by kernel_rfl) (phi_cons contains_ok (by kernel_rfl) phi_nil))
theorem phiGR_1 : phiGR 33 = some ([], gkeyedS) := rfl
theorem phiGR_2 : phiGR 34 = some ([], nrightS) := rfl
theorem phiGR_3 : phiGR 35 = some ([], containsS) := rfl
set_option maxHeartbeats 4000000 in
theorem gright_ok : FnOk Tryz.prog 14 grightS := by
  refine fn_slim2 Tryz.func14 s_gright phiGR_ok ?_
  intro xs hp r hs hp'
  unfold grightS at hs
  split at hs
  · injection hs with hs; subst hs
    rename_i m u t z ke es kf fs d
    obtain ⟨q1, q2, q3, q4, q5, q6, q7, q8, q9⟩ := hp'
    generalize unV m = m1 at *
    generalize es.map unEx = es at *
    subst q1
    generalize fs.map unS = fs at *
    subst q2
    rw [List.length_map] at q5 q6
    refine ⟨len_le (by kernel_rfl), ?_⟩
    have bad1 : (es.all fun x => keyedB x.1) = false → rightH ⟨m1, u, t, z, es, fs, d⟩ = false := fun h => by unfold rightH; simp only [h, Bool.and_false, Bool.false_and]
    have bad2 : ascB (es.map Prod.fst) = false → rightH ⟨m1, u, t, z, es, fs, d⟩ = false := fun h => by unfold rightH; simp only [h, Bool.and_false, Bool.false_and]
    have bad3 : fs.all rightP = false → rightH ⟨m1, u, t, z, es, fs, d⟩ = false := fun h => by unfold rightH; simp only [h, Bool.and_false, Bool.false_and]
    have bad4 : ascB fs = false → rightH ⟨m1, u, t, z, es, fs, d⟩ = false := fun h => by unfold rightH; simp only [h, Bool.and_false]
    simp only [c_gright, go_sem, Nat.reduceDiv, Nat.reduceMod, ↓reduceIte, Nat.reduceEqDiff, Nat.reduceBEq, Nat.reduceSub, Nat.reduceLT, Nat.reduceAdd, Nat.reduceLeDiff, reduceCtorEq, Int.reduceEq, Int.reduceNe, Int.reduceLT, Int.reduceLE, Int.reduceToNat]
    refine loop2P [] [1, 8, 9, 10] [0] (fun i : Nat => ⟨[(1, .ref 0 0 0), (8, .sl ke (es.map exV)), (9, .int .i64 (es.length : Int)), (10, .int .i64 (i : Int))], [.cells 30 [(20, .blob m), (1, .str u), (1, .int .i64 t), (1, .int .i64 z), (1, .sl ke (es.map exV)), (1, .sl kf (fs.map AV.str)), (1, .str d)]]⟩)
      (fun i => i ≤ es.length ∧ ((es.take i).all fun x => keyedB x.1) = true ∧ ascB ((es.map Prod.fst).take i) = true) (fun i => es.length - i) 0 (by rfl) ⟨Nat.zero_le _, by simp, by simp [ascB]⟩ ⟨rfl, by rfl⟩ (fun i hi R hR => ?_)
    obtain ⟨i1, i2, i3⟩ := hi
    by_cases hil : i < es.length
    · have c1 : decide ((i : Int) < (es.length : Int)) = true := decide_eq_true (by omega)
      have hk : ke = 2 := q3.resolve_right (by intro h; have := congrArg List.length h; simp at this; rw [this] at hil; simp at hil)
      have hz : (AV.agg [(1, AV.str []), (1, AV.str [])]) = exV ([], []) := rfl
      have hget := getD_map exV es ([], []) (AV.agg [(1, AV.str []), (1, AV.str [])]) hil
      have hga : es.getD i ([], []) = es[i] := by simp [List.getD_eq_getElem?_getD, List.getElem?_eq_getElem hil]
      have hlen := q7 es[i] (List.getElem_mem _)
      have hst := asc_step (es.map Prod.fst) (i := i) (by rw [List.length_map]; exact hil)
      rw [List.getElem_map] at hst
      have htk : (es.take (i + 1)).all (fun x => keyedB x.1) = keyedB es[i].1 := by
        rw [List.take_add_one, List.getElem?_eq_getElem hil, Option.toList_some, List.all_append, i2]; simp
      have hmem : es[i] ∈ es := List.getElem_mem _
      have hall : keyedB es[i].1 = false → (es.all fun x => keyedB x.1) = false := fun h => List.all_eq_false.2 ⟨es[i], hmem, by rw [h]; simp⟩
      have hasc : ascB ((es.map Prod.fst).take (i + 1)) = false → ascB (es.map Prod.fst) = false := fun h => by
        cases hh : ascB (es.map Prod.fst) with
        | false => rfl
        | true => rw [ascB_take _ (i + 1) hh] at h; cases h
      rw [i3, Bool.true_and] at hst
      subst hk
      generalize hx : es[i] = x at *
      cases h1 : keyedB x.1 with
      | false =>
        rw [bad1 (hall h1)]
        simp only [b_gright_0, r_gright, c1, hget, hga, exV, h1, phiGR_1, gkeyedS, Int.toNat_natCast, List.length_map, go_sem, Nat.reduceDiv, Nat.reduceMod, ↓reduceIte, Nat.reduceEqDiff, Nat.reduceBEq, Nat.reduceSub, Nat.reduceLT, Nat.reduceAdd, Nat.reduceLeDiff, reduceCtorEq, Int.reduceEq, Int.reduceNe, Int.reduceLT, Int.reduceLE, Int.reduceToNat]
        exact ⟨⟨by omega, by omega⟩, hlen⟩
      | true =>
        rw [h1] at htk
        by_cases h0 : i = 0
        · have d0 : decide (0 < (i : Int)) = false := decide_eq_false (by omega)
          rw [decide_eq_true h0, Bool.true_or] at hst
          simp only [b_gright_0, r_gright, c1, d0, hget, hga, exV, h1, phiGR_1, gkeyedS, Int.toNat_natCast, List.length_map, go_sem, Nat.reduceDiv, Nat.reduceMod, ↓reduceIte, Nat.reduceEqDiff, Nat.reduceBEq, Nat.reduceSub, Nat.reduceLT, Nat.reduceAdd, Nat.reduceLeDiff, reduceCtorEq, Int.reduceEq, Int.reduceNe, Int.reduceLT, Int.reduceLE, Int.reduceToNat]
          exact ⟨⟨by omega, by omega⟩, hlen, ⟨by omega, by omega⟩, hR _ (i + 1) ⟨hil, htk, hst⟩ (by omega) rfl⟩
        · have d0 : decide (0 < (i : Int)) = true := decide_eq_true (by omega)
          rw [decide_eq_false h0, Bool.false_or] at hst
          have e1 : ((i : Int) - 1).toNat = i - 1 := by omega
          have hget1 := getD_map exV es ([], []) (AV.agg [(1, AV.str []), (1, AV.str [])]) (show i - 1 < es.length by omega)
          have hkg : (es.map Prod.fst).getD (i - 1) [] = (es.getD (i - 1) ([], [])).1 := by
            simp [List.getD_eq_getElem?_getD, List.getElem?_eq_getElem (show i - 1 < es.length by omega)]
          rw [hkg] at hst
          cases h2 : Op.bytesLess (es.getD (i - 1) ([], [])).1 x.1 with
          | true =>
            rw [h2] at hst
            simp only [b_gright_0, r_gright, c1, d0, e1, hget, hget1, hga, exV, h1, h2, phiGR_1, gkeyedS, Int.toNat_natCast, List.length_map, go_sem, Nat.reduceDiv, Nat.reduceMod, ↓reduceIte, Nat.reduceEqDiff, Nat.reduceBEq, Nat.reduceSub, Nat.reduceLT, Nat.reduceAdd, Nat.reduceLeDiff, reduceCtorEq, Int.reduceEq, Int.reduceNe, Int.reduceLT, Int.reduceLE, Int.reduceToNat]
            exact ⟨⟨by omega, by omega⟩, hlen, ⟨by omega, by omega⟩, ⟨by omega, by omega⟩, ⟨by omega, by omega⟩, hR _ (i + 1) ⟨hil, htk, hst⟩ (by omega) rfl⟩
          | false =>
            rw [h2] at hst
            rw [bad2 (hasc hst)]
            simp only [b_gright_0, r_gright, c1, d0, e1, hget, hget1, hga, exV, h1, h2, phiGR_1, gkeyedS, Int.toNat_natCast, List.length_map, go_sem, Nat.reduceDiv, Nat.reduceMod, ↓reduceIte, Nat.reduceEqDiff, Nat.reduceBEq, Nat.reduceSub, Nat.reduceLT, Nat.reduceAdd, Nat.reduceLeDiff, reduceCtorEq, Int.reduceEq, Int.reduceNe, Int.reduceLT, Int.reduceLE, Int.reduceToNat]
            exact ⟨⟨by omega, by omega⟩, hlen, ⟨by omega, by omega⟩, by omega, by omega⟩
    · have c1 : decide ((i : Int) < (es.length : Int)) = false := decide_eq_false (by omega)
      rw [List.take_of_length_le (by omega)] at i2
      rw [List.take_of_length_le (by rw [List.length_map]; omega)] at i3
      simp only [b_gright_0, t_gright_1, c1, go_sem, Nat.reduceDiv, Nat.reduceMod, ↓reduceIte, Nat.reduceEqDiff, Nat.reduceBEq, Nat.reduceSub, Nat.reduceLT, Nat.reduceAdd, Nat.reduceLeDiff, reduceCtorEq, Int.reduceEq, Int.reduceNe, Int.reduceLT, Int.reduceLE, Int.reduceToNat]
      refine loop2P [] [1, 37, 38, 39] [0] (fun j : Nat => ⟨[(1, .ref 0 0 0), (37, .sl kf (fs.map AV.str)), (38, .int .i64 (fs.length : Int)), (39, .int .i64 (j : Int))], [.cells 30 [(20, .blob m), (1, .str u), (1, .int .i64 t), (1, .int .i64 z), (1, .sl ke (es.map exV)), (1, .sl kf (fs.map AV.str)), (1, .str d)]]⟩)
        (fun j => j ≤ fs.length ∧ (fs.take j).all rightP = true ∧ ascB (fs.take j) = true) (fun j => fs.length - j) 0 (by rfl) ⟨Nat.zero_le _, by simp, by simp [ascB]⟩ ⟨rfl, by rfl⟩ (fun j hj R2 hR2 => ?_)
      obtain ⟨j1, j2, j3⟩ := hj
      by_cases hjl : j < fs.length
      · have d1 : decide ((j : Int) < (fs.length : Int)) = true := decide_eq_true (by omega)
        have hk : kf = 1 := q4.resolve_right (by intro h; have := congrArg List.length h; simp at this; rw [this] at hjl; simp at hjl)
        have hget := getD_map AV.str fs [] (AV.str []) hjl
        have hga : fs.getD j [] = fs[j] := by simp [List.getD_eq_getElem?_getD, List.getElem?_eq_getElem hjl]
        have hlen := q8 fs[j] (List.getElem_mem _)
        have hst := asc_step fs hjl
        have htk : (fs.take (j + 1)).all rightP = rightP fs[j] := by
          rw [List.take_add_one, List.getElem?_eq_getElem hjl, Option.toList_some, List.all_append, j2]; simp
        have hmem : fs[j] ∈ fs := List.getElem_mem _
        have hall : rightP fs[j] = false → fs.all rightP = false := fun h => List.all_eq_false.2 ⟨fs[j], hmem, by rw [h]; simp⟩
        have hasc : ascB (fs.take (j + 1)) = false → ascB fs = false := fun h => by
          cases hh : ascB fs with
          | false => rfl
          | true => rw [ascB_take _ (j + 1) hh] at h; cases h
        rw [j3, Bool.true_and] at hst
        subst hk
        generalize hx : fs[j] = x at *
        cases h1 : rightP x with
        | false =>
          rw [bad3 (hall h1)]
          simp only [b_gright_1, r_gright, d1, hget, hga, h1, phiGR_2, nrightS, Int.toNat_natCast, List.length_map, go_sem, Nat.reduceDiv, Nat.reduceMod, ↓reduceIte, Nat.reduceEqDiff, Nat.reduceBEq, Nat.reduceSub, Nat.reduceLT, Nat.reduceAdd, Nat.reduceLeDiff, reduceCtorEq, Int.reduceEq, Int.reduceNe, Int.reduceLT, Int.reduceLE, Int.reduceToNat]
          exact ⟨⟨by omega, by omega⟩, hlen⟩
        | true =>
          rw [h1] at htk
          by_cases h0 : j = 0
          · have d0 : decide (0 < (j : Int)) = false := decide_eq_false (by omega)
            rw [decide_eq_true h0, Bool.true_or] at hst
            simp only [b_gright_1, r_gright, d1, d0, hget, hga, h1, phiGR_2, nrightS, Int.toNat_natCast, List.length_map, go_sem, Nat.reduceDiv, Nat.reduceMod, ↓reduceIte, Nat.reduceEqDiff, Nat.reduceBEq, Nat.reduceSub, Nat.reduceLT, Nat.reduceAdd, Nat.reduceLeDiff, reduceCtorEq, Int.reduceEq, Int.reduceNe, Int.reduceLT, Int.reduceLE, Int.reduceToNat]
            exact ⟨⟨by omega, by omega⟩, hlen, ⟨by omega, by omega⟩, hR2 _ (j + 1) ⟨hjl, htk, hst⟩ (by omega) rfl⟩
          · have d0 : decide (0 < (j : Int)) = true := decide_eq_true (by omega)
            rw [decide_eq_false h0, Bool.false_or] at hst
            have e1 : ((j : Int) - 1).toNat = j - 1 := by omega
            have hget1 := getD_map AV.str fs [] (AV.str []) (show j - 1 < fs.length by omega)
            cases h2 : Op.bytesLess (fs.getD (j - 1) []) x with
            | true =>
              rw [h2] at hst
              simp only [b_gright_1, r_gright, d1, d0, e1, hget, hget1, hga, h1, h2, phiGR_2, nrightS, Int.toNat_natCast, List.length_map, go_sem, Nat.reduceDiv, Nat.reduceMod, ↓reduceIte, Nat.reduceEqDiff, Nat.reduceBEq, Nat.reduceSub, Nat.reduceLT, Nat.reduceAdd, Nat.reduceLeDiff, reduceCtorEq, Int.reduceEq, Int.reduceNe, Int.reduceLT, Int.reduceLE, Int.reduceToNat]
              exact ⟨⟨by omega, by omega⟩, hlen, ⟨by omega, by omega⟩, ⟨by omega, by omega⟩, ⟨by omega, by omega⟩, hR2 _ (j + 1) ⟨hjl, htk, hst⟩ (by omega) rfl⟩
            | false =>
              rw [h2] at hst
              rw [bad4 (hasc hst)]
              simp only [b_gright_1, r_gright, d1, d0, e1, hget, hget1, hga, h1, h2, phiGR_2, nrightS, Int.toNat_natCast, List.length_map, go_sem, Nat.reduceDiv, Nat.reduceMod, ↓reduceIte, Nat.reduceEqDiff, Nat.reduceBEq, Nat.reduceSub, Nat.reduceLT, Nat.reduceAdd, Nat.reduceLeDiff, reduceCtorEq, Int.reduceEq, Int.reduceNe, Int.reduceLT, Int.reduceLE, Int.reduceToNat]
              exact ⟨⟨by omega, by omega⟩, hlen, ⟨by omega, by omega⟩, by omega, by omega⟩
      · have d1 : decide ((j : Int) < (fs.length : Int)) = false := decide_eq_false (by omega)
        rw [List.take_of_length_le (by omega)] at j2 j3
        have hrr : rightH ⟨m1, u, t, z, es, fs, d⟩ = (((((!decide (u = []) && !u.contains 10) && decide (0 ≤ t)) && decide (t < 4611686018427387904)) && decide (-86399 ≤ z)) && decide (z ≤ 86399)) := by
          unfold rightH
          simp only [i2, i3, j2, j3, Bool.and_true]
          simp
        rw [hrr]
        cases a1 : decide (u = []) with
        | true => simp only [a1, b_gright_1, t_gright_0, r_gright, d1, phiGR_3, containsS, Bool.false_and, Bool.true_and, Bool.not_true, Bool.not_false, go_sem, Nat.reduceDiv, Nat.reduceMod, ↓reduceIte, Nat.reduceEqDiff, Nat.reduceBEq, Nat.reduceSub, Nat.reduceLT, Nat.reduceAdd, Nat.reduceLeDiff, reduceCtorEq, Int.reduceEq, Int.reduceNe, Int.reduceLT, Int.reduceLE, Int.reduceToNat]
        | false =>
        cases a2 : u.contains 10 with
        | true =>
          simp only [a1, a2, b_gright_1, t_gright_0, r_gright, d1, phiGR_3, containsS, Bool.false_and, Bool.true_and, Bool.not_true, Bool.not_false, go_sem, Nat.reduceDiv, Nat.reduceMod, ↓reduceIte, Nat.reduceEqDiff, Nat.reduceBEq, Nat.reduceSub, Nat.reduceLT, Nat.reduceAdd, Nat.reduceLeDiff, reduceCtorEq, Int.reduceEq, Int.reduceNe, Int.reduceLT, Int.reduceLE, Int.reduceToNat]
          exact q9
        | false =>
        cases a3 : decide (0 ≤ t) with
        | false =>
          simp only [a1, a2, a3, b_gright_1, t_gright_0, r_gright, d1, phiGR_3, containsS, Bool.false_and, Bool.true_and, Bool.not_true, Bool.not_false, go_sem, Nat.reduceDiv, Nat.reduceMod, ↓reduceIte, Nat.reduceEqDiff, Nat.reduceBEq, Nat.reduceSub, Nat.reduceLT, Nat.reduceAdd, Nat.reduceLeDiff, reduceCtorEq, Int.reduceEq, Int.reduceNe, Int.reduceLT, Int.reduceLE, Int.reduceToNat]
          exact q9
        | true =>
        cases a4 : decide (t < 4611686018427387904) with
        | false =>
          simp only [a1, a2, a3, a4, b_gright_1, t_gright_0, r_gright, d1, phiGR_3, containsS, Bool.false_and, Bool.true_and, Bool.not_true, Bool.not_false, go_sem, Nat.reduceDiv, Nat.reduceMod, ↓reduceIte, Nat.reduceEqDiff, Nat.reduceBEq, Nat.reduceSub, Nat.reduceLT, Nat.reduceAdd, Nat.reduceLeDiff, reduceCtorEq, Int.reduceEq, Int.reduceNe, Int.reduceLT, Int.reduceLE, Int.reduceToNat]
          exact q9
        | true =>
        cases a5 : decide (-86399 ≤ z) with
        | false =>
          simp only [a1, a2, a3, a4, a5, b_gright_1, t_gright_0, r_gright, d1, phiGR_3, containsS, Bool.false_and, Bool.true_and, Bool.not_true, Bool.not_false, go_sem, Nat.reduceDiv, Nat.reduceMod, ↓reduceIte, Nat.reduceEqDiff, Nat.reduceBEq, Nat.reduceSub, Nat.reduceLT, Nat.reduceAdd, Nat.reduceLeDiff, reduceCtorEq, Int.reduceEq, Int.reduceNe, Int.reduceLT, Int.reduceLE, Int.reduceToNat]
          exact q9
        | true =>
          simp only [a1, a2, a3, a4, a5, b_gright_1, t_gright_0, r_gright, d1, phiGR_3, containsS, Bool.false_and, Bool.true_and, Bool.not_true, Bool.not_false, go_sem, Nat.reduceDiv, Nat.reduceMod, ↓reduceIte, Nat.reduceEqDiff, Nat.reduceBEq, Nat.reduceSub, Nat.reduceLT, Nat.reduceAdd, Nat.reduceLeDiff, reduceCtorEq, Int.reduceEq, Int.reduceNe, Int.reduceLT, Int.reduceLE, Int.reduceToNat]
          exact q9
  · cases hs
end Go.Proofs.YtfabdnpeohpgnaaGreatDoor
namespace Go.Proofs.YtfabdnpeohpgnaaGreatDoor
set_option linter.all false
open Go.RowKit
open Go.Lib (index hasPrefix cut indexAny itoa decDigits)
def gEx : Nat → List UInt8 → List ExL
  | 0, _ => []
  | f + 1, m => if m = [] then [] else exP (cut m [0]).1 :: gEx f (cut m [0]).2.1
def gFiles : Nat → List UInt8 → List (List UInt8) × List UInt8
  | 0, r => ([], r)
  | f + 1, r => if r = [] ∨ r.head? = some 10 then ([], r) else ((cut r [10]).1 :: (gFiles f (cut r [10]).2.1).1, (gFiles f (cut r [10]).2.1).2)
noncomputable def guessH (s : List UInt8) : ChgL :=
  ⟨pOut (q1 s).1, (q2 s).1, nmV (tP s).1, nmV (zP s).1, gEx ((zP s).2.1.length + 1) (zP s).2.1, (gFiles ((q3 s).2.1.length + 1) (q3 s).2.1).1, (gFiles ((q3 s).2.1.length + 1) (q3 s).2.1).2.drop 1⟩
theorem gEx_app : ∀ (es : List ExL) (f : Nat), (joinB 0 (es.map exT)).length < f → (∀ x ∈ es, keyedB x.1 = true) → gEx f (joinB 0 (es.map exT)) = es
  | [], f, hf, _ => by
    cases f with
    | zero => rfl
    | succ f => rfl
  | [x], f, hf, h => by
    obtain ⟨f, rfl⟩ : ∃ k, f = k + 1 := ⟨f - 1, by omega⟩
    have hx := h x (List.mem_cons_self ..)
    obtain ⟨h1, h2, h3⟩ := exT_no hx
    rw [List.map_cons, List.map_nil, joinB, List.flatMap_nil, List.append_nil, gEx, if_neg h3, cut_1n h2]
    simp only
    rw [(exP_T hx).1]
    cases f with
    | zero => rfl
    | succ f => rfl
  | x :: y :: r, f, hf, h => by
    obtain ⟨f, rfl⟩ : ∃ k, f = k + 1 := ⟨f - 1, by omega⟩
    have hx := h x (List.mem_cons_self ..)
    obtain ⟨h1, h2, h3⟩ := exT_no hx
    have e : joinB 0 ((x :: y :: r).map exT) = exT x ++ 0 :: joinB 0 ((y :: r).map exT) := by
      rw [List.map_cons, joinB, List.map_cons, List.flatMap_cons, joinB]; simp
    have hl := congrArg List.length e
    rw [List.length_append, List.length_cons] at hl
    rw [e, gEx, if_neg (by simp), cut_1 h2]
    simp only
    rw [(exP_T hx).1, gEx_app (y :: r) f (by omega) fun z hz => h z (List.mem_cons_of_mem _ hz)]
theorem gFiles_app : ∀ (fs : List (List UInt8)) (f : Nat) (d : List UInt8), fs.length < f → (∀ x ∈ fs, x ≠ [] ∧ (10 : UInt8) ∉ x) → gFiles f (fs.flatMap fileT ++ 10 :: d) = (fs, 10 :: d)
  | [], f, d, hf, _ => by
    obtain ⟨f, rfl⟩ : ∃ k, f = k + 1 := ⟨f - 1, by simp only [List.length_nil] at hf; omega⟩
    rw [List.flatMap_nil, List.nil_append, gFiles, if_pos (.inr rfl)]
  | x :: fs, f, d, hf, h => by
    obtain ⟨f, rfl⟩ : ∃ k, f = k + 1 := ⟨f - 1, by simp only [List.length_cons] at hf; omega⟩
    simp only [List.length_cons] at hf
    obtain ⟨x1, x2⟩ := h x (List.mem_cons_self ..)
    have e0 : (x :: fs).flatMap fileT ++ 10 :: d = x ++ 10 :: (fs.flatMap fileT ++ 10 :: d) := by
      rw [List.flatMap_cons, fileT, List.append_assoc, List.append_assoc]; rfl
    have hn : ¬ (x ++ 10 :: (fs.flatMap fileT ++ 10 :: d) = [] ∨ (x ++ 10 :: (fs.flatMap fileT ++ 10 :: d)).head? = some 10) := by
      cases x with
      | nil => exact absurd rfl x1
      | cons z x =>
        rintro (hh | hh)
        · simp at hh
        · injection hh with hh; exact x2 (by rw [hh]; exact List.mem_cons_self ..)
    rw [e0, gFiles, if_neg hn, cut_1 x2]
    simp only
    rw [gFiles_app fs f d (by omega) fun y hy => h y (List.mem_cons_of_mem _ hy)]
theorem guess_chg {c : ChgL} (h : rightH c = true) (h20 : c.man.length = 20) : guessH (bodyH c) = c := by
  have hr := rightH_of h
  generalize hs : bodyH c = s
  unfold bodyH at hs
  have e1 : q1 s = (hexL c.man, c.user ++ 10 :: (dateT c ++ 10 :: (c.files.flatMap fileT ++ 10 :: c.desc)), true) := by unfold q1; rw [← hs]; exact cut_1 (hexL_n10 _)
  have e2 : q2 s = (c.user, dateT c ++ 10 :: (c.files.flatMap fileT ++ 10 :: c.desc), true) := by unfold q2; rw [e1]; exact cut_1 hr.user.2
  have e3 : q3 s = (dateT c, c.files.flatMap fileT ++ 10 :: c.desc, true) := by unfold q3; rw [e2]; exact cut_1 (dateT_no hr)
  obtain ⟨d1, d2, d3⟩ := cut_date hr
  have e4 : tP s = (itoa c.time, itoa c.zone ++ exsT c.extras, true) := by unfold tP; rw [e3]; exact d1
  obtain ⟨m1, m2⟩ := nm_itoa (z := c.time) (by have := hr.time; omega) hr.time.2
  obtain ⟨m3, m4⟩ := nm_itoa (z := c.zone) (by have := hr.zone; omega) (by have := hr.zone; omega)
  have eb : (zP s).1 = itoa c.zone ∧ (zP s).2.1 = joinB 0 (c.extras.map exT) := by
    by_cases he : c.extras = []
    · have e5 : zP s = (itoa c.zone, [], false) := by unfold zP; rw [e4]; exact d2 he
      rw [e5, he]; exact ⟨rfl, rfl⟩
    · have e5 : zP s = (itoa c.zone, joinB 0 (c.extras.map exT), true) := by unfold zP; rw [e4]; exact d3 he
      rw [e5]; exact ⟨rfl, rfl⟩
  obtain ⟨b1, b2⟩ := eb
  have e7 : gFiles ((q3 s).2.1.length + 1) (q3 s).2.1 = (c.files, 10 :: c.desc) := by
    rw [e3]
    simp only
    refine gFiles_app c.files _ c.desc ?_ fun x hx => file_no (hr.paths x hx)
    have := flat_ge c.files
    simp only [List.length_append, List.length_cons]; omega
  unfold guessH
  rw [e7, b2, gEx_app c.extras _ (Nat.lt_succ_self _) hr.keys, b1, e1, e2, e4]
  simp only [List.drop_succ_cons, List.drop_zero]
  rw [m2, m4, pOut_hex _ h20]
theorem guessH_len (s : List UInt8) : (guessH s).man.length = 20 := pOut_len _
theorem chg_iff (s : List UInt8) : chgB s = (rightH (guessH s) && decide (bodyH (guessH s) = s)) := by
  rw [Bool.eq_iff_iff, Bool.and_eq_true, decide_eq_true_eq]
  constructor
  · intro h
    obtain ⟨h1, h2⟩ := body_chg h
    have e := guess_chg h1 (chgC_len s)
    rw [h2] at e
    rw [e]; exact ⟨h1, h2⟩
  · rintro ⟨h1, h2⟩
    have := (chg_body h1 (guessH_len s)).1
    rwa [h2] at this
theorem chg_eq {s : List UInt8} (h : chgB s = true) : guessH s = chgC s := by
  obtain ⟨h1, h2⟩ := body_chg h
  have e := guess_chg h1 (chgC_len s)
  rwa [h2] at e
theorem less_tri : ∀ a b : List UInt8, Op.bytesLess a b = !(Op.bytesLess b a || decide (b = a))
  | [], [] => by simp [Op.bytesLess]
  | [], y :: b => by simp [Op.bytesLess]
  | x :: a, [] => by simp [Op.bytesLess]
  | x :: a, y :: b => by
    have ih := less_tri a b
    unfold Op.bytesLess
    rcases Nat.lt_trichotomy x.toNat y.toNat with h | h | h
    · have h1 : x < y := h
      have h2 : ¬ y < x := by intro hh; have : y.toNat < x.toNat := hh; omega
      have h3 : y ≠ x := by intro e; rw [e] at h; omega
      simp [h1, h2, h3]
    · have e : x = y := UInt8.toNat_inj.1 h
      subst e
      have h1 : ¬ x < x := by intro hh; have : x.toNat < x.toNat := hh; omega
      simp [h1, ih]
    · have h1 : ¬ x < y := by intro hh; have : x.toNat < y.toNat := hh; omega
      have h2 : y < x := h
      have h3 : x ≠ y := by intro e; rw [e] at h; omega
      simp [h1, h2, h3]
end Go.Proofs.YtfabdnpeohpgnaaGreatDoor
namespace Go.Proofs.YtfabdnpeohpgnaaGreatDoor
set_option linter.all false
open Go.RowKit
open Go.Lib (index hasPrefix cut indexAny itoa)
def rgrightS : Spec := fun xs hp => match xs, hp with
  | [.agg [(20, .blob m), (1, .str u), (1, .int .i64 t), (1, .int .i64 z), (1, .sl ke es), (1, .sl kf fs), (1, .str d)]], [] =>
    some ⟨.bool (rightH ⟨unV m, u, t, z, es.map unEx, fs.map unS, d⟩), [], es = (es.map unEx).map exV ∧ fs = (fs.map unS).map AV.str ∧ (ke = 2 ∨ es = []) ∧ (kf = 1 ∨ fs = []) ∧ es.length ≤ 1000000 ∧ fs.length ≤ 1000000 ∧
      (∀ x ∈ es.map unEx, x.1.length ≤ 1000000000) ∧ (∀ f ∈ fs.map unS, f.length ≤ 1000000) ∧ u.length ≤ 1000000⟩
  | _, _ => none
def phiRR : Phi := phiL [(19, [], rgkeyedS), (20, [], rrightS)]
theorem phiRR_ok : PhiOk Tryz.prog phiRR := phi_cons rgkeyed_ok (by kernel_rfl) (phi_cons rright_ok (by kernel_rfl) phi_nil)
theorem phiRR_1 : phiRR 19 = some ([], rgkeyedS) := rfl
theorem phiRR_2 : phiRR 20 = some ([], rrightS) := rfl
set_option maxHeartbeats 4000000 in
theorem rgright_ok : FnOk Tryz.prog 8 rgrightS := by
  refine fn_slim2 Tryz.func8 s_rgright phiRR_ok ?_
  intro xs hp r hs hp'
  unfold rgrightS at hs
  split at hs
  · injection hs with hs; subst hs
    rename_i m u t z ke es kf fs d
    obtain ⟨q1, q2, q3, q4, q5, q6, q7, q8, q9⟩ := hp'
    generalize unV m = m1 at *
    generalize es.map unEx = es at *
    subst q1
    generalize fs.map unS = fs at *
    subst q2
    rw [List.length_map] at q5 q6
    refine ⟨len_le (by kernel_rfl), ?_⟩
    have bad1 : (es.all fun x => keyedB x.1) = false → rightH ⟨m1, u, t, z, es, fs, d⟩ = false := fun h => by unfold rightH; simp only [h, Bool.and_false, Bool.false_and]
    have bad2 : ascB (es.map Prod.fst) = false → rightH ⟨m1, u, t, z, es, fs, d⟩ = false := fun h => by unfold rightH; simp only [h, Bool.and_false, Bool.false_and]
    have bad3 : fs.all rightP = false → rightH ⟨m1, u, t, z, es, fs, d⟩ = false := fun h => by unfold rightH; simp only [h, Bool.and_false, Bool.false_and]
    have bad4 : ascB fs = false → rightH ⟨m1, u, t, z, es, fs, d⟩ = false := fun h => by unfold rightH; simp only [h, Bool.and_false]
    have bad5 : u = [] → rightH ⟨m1, u, t, z, es, fs, d⟩ = false := fun h => by unfold rightH; simp [h]
    have bad6 : u.contains 10 = true → rightH ⟨m1, u, t, z, es, fs, d⟩ = false := fun h => by unfold rightH; simp only [h, Bool.not_true, Bool.and_false, Bool.false_and]
    have bad7 : t < 0 → rightH ⟨m1, u, t, z, es, fs, d⟩ = false := fun h => by unfold rightH; simp only [decide_eq_false (by omega : ¬ 0 ≤ t), Bool.and_false, Bool.false_and]
    have bad8 : 4611686018427387904 ≤ t → rightH ⟨m1, u, t, z, es, fs, d⟩ = false := fun h => by unfold rightH; simp only [decide_eq_false (by omega : ¬ t < 4611686018427387904), Bool.and_false, Bool.false_and]
    have bad9 : z < -86399 → rightH ⟨m1, u, t, z, es, fs, d⟩ = false := fun h => by unfold rightH; simp only [decide_eq_false (by omega : ¬ -86399 ≤ z), Bool.and_false, Bool.false_and]
    have bad0 : 86399 < z → rightH ⟨m1, u, t, z, es, fs, d⟩ = false := fun h => by unfold rightH; simp only [decide_eq_false (by omega : ¬ z ≤ 86399), Bool.and_false, Bool.false_and]
    by_cases k1 : u = []
    · have a1 : decide ((u.length : Int) = 0) = true := decide_eq_true (by rw [k1]; rfl)
      rw [bad5 k1]
      simp only [c_rgright, r_rgright, a1, go_sem, Nat.reduceDiv, Nat.reduceMod, ↓reduceIte, Nat.reduceEqDiff, Nat.reduceBEq, Nat.reduceSub, Nat.reduceLT, Nat.reduceAdd, Nat.reduceLeDiff, reduceCtorEq, Int.reduceEq, Int.reduceNe, Int.reduceLT, Int.reduceLE, Int.reduceToNat]
    have hul : u.length ≠ 0 := fun h => k1 (List.length_eq_zero_iff.1 h)
    have a1 : decide ((u.length : Int) = 0) = false := decide_eq_false (by omega)
    by_cases k2 : t < 0
    · have a2 : decide (t < 0) = true := decide_eq_true k2
      rw [bad7 k2]
      simp only [c_rgright, r_rgright, a1, a2, go_sem, Nat.reduceDiv, Nat.reduceMod, ↓reduceIte, Nat.reduceEqDiff, Nat.reduceBEq, Nat.reduceSub, Nat.reduceLT, Nat.reduceAdd, Nat.reduceLeDiff, reduceCtorEq, Int.reduceEq, Int.reduceNe, Int.reduceLT, Int.reduceLE, Int.reduceToNat]
    have a2 : decide (t < 0) = false := decide_eq_false k2
    by_cases k3 : 4611686018427387904 ≤ t
    · have a3 : decide (4611686018427387904 ≤ t) = true := decide_eq_true k3
      rw [bad8 k3]
      simp only [c_rgright, r_rgright, a1, a2, a3, go_sem, Nat.reduceDiv, Nat.reduceMod, ↓reduceIte, Nat.reduceEqDiff, Nat.reduceBEq, Nat.reduceSub, Nat.reduceLT, Nat.reduceAdd, Nat.reduceLeDiff, reduceCtorEq, Int.reduceEq, Int.reduceNe, Int.reduceLT, Int.reduceLE, Int.reduceToNat]
    have a3 : decide (4611686018427387904 ≤ t) = false := decide_eq_false k3
    by_cases k4 : z < -86399
    · have a4 : decide (z < -86399) = true := decide_eq_true k4
      rw [bad9 k4]
      simp only [c_rgright, r_rgright, a1, a2, a3, a4, go_sem, Nat.reduceDiv, Nat.reduceMod, ↓reduceIte, Nat.reduceEqDiff, Nat.reduceBEq, Nat.reduceSub, Nat.reduceLT, Nat.reduceAdd, Nat.reduceLeDiff, reduceCtorEq, Int.reduceEq, Int.reduceNe, Int.reduceLT, Int.reduceLE, Int.reduceToNat]
    have a4 : decide (z < -86399) = false := decide_eq_false k4
    by_cases k5 : 86399 < z
    · have a5 : decide (86399 < z) = true := decide_eq_true k5
      rw [bad0 k5]
      simp only [c_rgright, r_rgright, a1, a2, a3, a4, a5, go_sem, Nat.reduceDiv, Nat.reduceMod, ↓reduceIte, Nat.reduceEqDiff, Nat.reduceBEq, Nat.reduceSub, Nat.reduceLT, Nat.reduceAdd, Nat.reduceLeDiff, reduceCtorEq, Int.reduceEq, Int.reduceNe, Int.reduceLT, Int.reduceLE, Int.reduceToNat]
    have a5 : decide (86399 < z) = false := decide_eq_false k5
    simp only [c_rgright, a1, a2, a3, a4, a5, go_sem, Nat.reduceDiv, Nat.reduceMod, ↓reduceIte, Nat.reduceEqDiff, Nat.reduceBEq, Nat.reduceSub, Nat.reduceLT, Nat.reduceAdd, Nat.reduceLeDiff, reduceCtorEq, Int.reduceEq, Int.reduceNe, Int.reduceLT, Int.reduceLE, Int.reduceToNat]
    refine loop2P [] [1, 3] [0] (fun i : Nat => ⟨[(1, .ref 0 0 0), (3, .int .i64 (i : Int))], [.cells 26 [(20, .blob m), (1, .str u), (1, .int .i64 t), (1, .int .i64 z), (1, .sl ke (es.map exV)), (1, .sl kf (fs.map AV.str)), (1, .str d)]]⟩)
      (fun i => i ≤ u.length ∧ (10 : UInt8) ∉ u.take i) (fun i => u.length - i) 0 (by rfl) ⟨Nat.zero_le _, by simp⟩ ⟨rfl, by rfl⟩ (fun i hi R hR => ?_)
    obtain ⟨i1, i2⟩ := hi
    by_cases hil : i < u.length
    · have c1 : decide ((i : Int) < (u.length : Int)) = true := decide_eq_true (by omega)
      have hat := at8_nat hil
      have g1 : decide (((u[i].toNat : Nat) : Int) = 10) = decide (u[i] = 10) := u8_eq u[i] 10
      by_cases h : u[i] = 10
      · have d1 : decide (u[i] = 10) = true := decide_eq_true h
        rw [bad6 (List.contains_iff_mem.2 (by rw [← h]; exact List.getElem_mem _))]
        simp only [b_rgright_0, r_rgright, c1, hat, g1, d1, Int.toNat_natCast, go_sem, Nat.reduceDiv, Nat.reduceMod, ↓reduceIte, Nat.reduceEqDiff, Nat.reduceBEq, Nat.reduceSub, Nat.reduceLT, Nat.reduceAdd, Nat.reduceLeDiff, reduceCtorEq, Int.reduceEq, Int.reduceNe, Int.reduceLT, Int.reduceLE, Int.reduceToNat]
        repeat' apply And.intro
        all_goals first | omega | rfl
      · have d1 : decide (u[i] = 10) = false := decide_eq_false h
        simp only [b_rgright_0, r_rgright, c1, hat, g1, d1, Int.toNat_natCast, go_sem, Nat.reduceDiv, Nat.reduceMod, ↓reduceIte, Nat.reduceEqDiff, Nat.reduceBEq, Nat.reduceSub, Nat.reduceLT, Nat.reduceAdd, Nat.reduceLeDiff, reduceCtorEq, Int.reduceEq, Int.reduceNe, Int.reduceLT, Int.reduceLE, Int.reduceToNat]
        refine ⟨⟨by omega, by omega⟩, ⟨by omega, by omega⟩, hR _ (i + 1) ⟨hil, fun hm => ?_⟩ (by omega) rfl⟩
        rcases (takeS_mem hil).1 hm with hm | hm
        · exact i2 hm
        · exact h hm.symm
    have c0 : decide ((i : Int) < (u.length : Int)) = false := decide_eq_false (by omega)
    rw [List.take_of_length_le (by omega)] at i2
    have hu : u.contains 10 = false := by
      cases hh : u.contains 10 with
      | false => rfl
      | true => exact absurd (List.contains_iff_mem.1 hh) i2
    simp only [b_rgright_0, t_rgright_2, c0, go_sem, Nat.reduceDiv, Nat.reduceMod, ↓reduceIte, Nat.reduceEqDiff, Nat.reduceBEq, Nat.reduceSub, Nat.reduceLT, Nat.reduceAdd, Nat.reduceLeDiff, reduceCtorEq, Int.reduceEq, Int.reduceNe, Int.reduceLT, Int.reduceLE, Int.reduceToNat]
    clear hR R
    refine loop2P [] [1, 4] [0] (fun i : Nat => ⟨[(1, .ref 0 0 0), (4, .int .i64 (i : Int))], [.cells 26 [(20, .blob m), (1, .str u), (1, .int .i64 t), (1, .int .i64 z), (1, .sl ke (es.map exV)), (1, .sl kf (fs.map AV.str)), (1, .str d)]]⟩)
      (fun i => i ≤ es.length ∧ ((es.take i).all fun x => keyedB x.1) = true ∧ ascB ((es.map Prod.fst).take i) = true) (fun i => es.length - i) 0 (by rfl) ⟨Nat.zero_le _, by simp, by simp [ascB]⟩ ⟨rfl, by rfl⟩ (fun i hi R hR => ?_)
    obtain ⟨i1, i2, i3⟩ := hi
    by_cases hil : i < es.length
    · have c1 : decide ((i : Int) < (es.length : Int)) = true := decide_eq_true (by omega)
      have hk : ke = 2 := q3.resolve_right (by intro h; have := congrArg List.length h; simp at this; rw [this] at hil; simp at hil)
      have hget := getD_map exV es ([], []) (AV.agg [(1, AV.str []), (1, AV.str [])]) hil
      have hga : es.getD i ([], []) = es[i] := by simp [List.getD_eq_getElem?_getD, List.getElem?_eq_getElem hil]
      have hlen := q7 es[i] (List.getElem_mem _)
      have hst := asc_step (es.map Prod.fst) (i := i) (by rw [List.length_map]; exact hil)
      rw [List.getElem_map] at hst
      have htk : (es.take (i + 1)).all (fun x => keyedB x.1) = keyedB es[i].1 := by
        rw [List.take_add_one, List.getElem?_eq_getElem hil, Option.toList_some, List.all_append, i2]; simp
      have hmem : es[i] ∈ es := List.getElem_mem _
      have hall : keyedB es[i].1 = false → (es.all fun x => keyedB x.1) = false := fun h => List.all_eq_false.2 ⟨es[i], hmem, by rw [h]; simp⟩
      have hasc : ascB ((es.map Prod.fst).take (i + 1)) = false → ascB (es.map Prod.fst) = false := fun h => by
        cases hh : ascB (es.map Prod.fst) with
        | false => rfl
        | true => rw [ascB_take _ (i + 1) hh] at h; cases h
      rw [i3, Bool.true_and] at hst
      subst hk
      generalize hx : es[i] = x at *
      cases h1 : keyedB x.1 with
      | false =>
        rw [bad1 (hall h1)]
        simp only [b_rgright_1, r_rgright, c1, hget, hga, exV, h1, phiRR_1, rgkeyedS, Int.toNat_natCast, List.length_map, go_sem, Nat.reduceDiv, Nat.reduceMod, ↓reduceIte, Nat.reduceEqDiff, Nat.reduceBEq, Nat.reduceSub, Nat.reduceLT, Nat.reduceAdd, Nat.reduceLeDiff, reduceCtorEq, Int.reduceEq, Int.reduceNe, Int.reduceLT, Int.reduceLE, Int.reduceToNat]
        repeat' apply And.intro
        all_goals first | omega | rfl
      | true =>
        rw [h1] at htk
        by_cases h0 : i = 0
        · have d0 : decide (0 < (i : Int)) = false := decide_eq_false (by omega)
          rw [decide_eq_true h0, Bool.true_or] at hst
          simp only [b_rgright_1, r_rgright, c1, d0, hget, hga, exV, h1, phiRR_1, rgkeyedS, Int.toNat_natCast, List.length_map, go_sem, Nat.reduceDiv, Nat.reduceMod, ↓reduceIte, Nat.reduceEqDiff, Nat.reduceBEq, Nat.reduceSub, Nat.reduceLT, Nat.reduceAdd, Nat.reduceLeDiff, reduceCtorEq, Int.reduceEq, Int.reduceNe, Int.reduceLT, Int.reduceLE, Int.reduceToNat]
          repeat' apply And.intro
          all_goals first | omega | exact hR _ (i + 1) ⟨hil, htk, hst⟩ (by omega) rfl
        · have d0 : decide (0 < (i : Int)) = true := decide_eq_true (by omega)
          rw [decide_eq_false h0, Bool.false_or] at hst
          have e1 : ((i : Int) - 1).toNat = i - 1 := by omega
          have hget1 := getD_map exV es ([], []) (AV.agg [(1, AV.str []), (1, AV.str [])]) (show i - 1 < es.length by omega)
          have hkg : (es.map Prod.fst).getD (i - 1) [] = (es.getD (i - 1) ([], [])).1 := by
            simp [List.getD_eq_getElem?_getD, List.getElem?_eq_getElem (show i - 1 < es.length by omega)]
          rw [hkg] at hst
          have htri := less_tri (es.getD (i - 1) ([], [])).1 x.1
          cases h2 : (Op.bytesLess x.1 (es.getD (i - 1) ([], [])).1 || decide (x.1 = (es.getD (i - 1) ([], [])).1)) with
          | false =>
            rw [h2] at htri
            rw [htri] at hst
            simp only [b_rgright_1, r_rgright, c1, d0, e1, hget, hget1, hga, exV, h1, h2, phiRR_1, rgkeyedS, Int.toNat_natCast, List.length_map, go_sem, Nat.reduceDiv, Nat.reduceMod, ↓reduceIte, Nat.reduceEqDiff, Nat.reduceBEq, Nat.reduceSub, Nat.reduceLT, Nat.reduceAdd, Nat.reduceLeDiff, reduceCtorEq, Int.reduceEq, Int.reduceNe, Int.reduceLT, Int.reduceLE, Int.reduceToNat]
            repeat' apply And.intro
            all_goals first | omega | exact hR _ (i + 1) ⟨hil, htk, hst⟩ (by omega) rfl
          | true =>
            rw [h2] at htri
            rw [htri] at hst
            rw [bad2 (hasc hst)]
            simp only [b_rgright_1, r_rgright, c1, d0, e1, hget, hget1, hga, exV, h1, h2, phiRR_1, rgkeyedS, Int.toNat_natCast, List.length_map, go_sem, Nat.reduceDiv, Nat.reduceMod, ↓reduceIte, Nat.reduceEqDiff, Nat.reduceBEq, Nat.reduceSub, Nat.reduceLT, Nat.reduceAdd, Nat.reduceLeDiff, reduceCtorEq, Int.reduceEq, Int.reduceNe, Int.reduceLT, Int.reduceLE, Int.reduceToNat]
            repeat' apply And.intro
            all_goals first | omega | rfl
    have c2 : decide ((i : Int) < (es.length : Int)) = false := decide_eq_false (by omega)
    rw [List.take_of_length_le (by omega)] at i2
    rw [List.take_of_length_le (by rw [List.length_map]; omega)] at i3
    simp only [b_rgright_1, t_rgright_1, c2, List.length_map, go_sem, Nat.reduceDiv, Nat.reduceMod, ↓reduceIte, Nat.reduceEqDiff, Nat.reduceBEq, Nat.reduceSub, Nat.reduceLT, Nat.reduceAdd, Nat.reduceLeDiff, reduceCtorEq, Int.reduceEq, Int.reduceNe, Int.reduceLT, Int.reduceLE, Int.reduceToNat]
    clear hR R
    refine loop2P [] [1, 5] [0] (fun j : Nat => ⟨[(1, .ref 0 0 0), (5, .int .i64 (j : Int))], [.cells 26 [(20, .blob m), (1, .str u), (1, .int .i64 t), (1, .int .i64 z), (1, .sl ke (es.map exV)), (1, .sl kf (fs.map AV.str)), (1, .str d)]]⟩)
      (fun j => j ≤ fs.length ∧ (fs.take j).all rightP = true ∧ ascB (fs.take j) = true) (fun j => fs.length - j) 0 (by rfl) ⟨Nat.zero_le _, by simp, by simp [ascB]⟩ ⟨rfl, by rfl⟩ (fun j hj R2 hR2 => ?_)
    obtain ⟨j1, j2, j3⟩ := hj
    by_cases hjl : j < fs.length
    · have d1 : decide ((j : Int) < (fs.length : Int)) = true := decide_eq_true (by omega)
      have hk : kf = 1 := q4.resolve_right (by intro h; have := congrArg List.length h; simp at this; rw [this] at hjl; simp at hjl)
      have hget := getD_map AV.str fs [] (AV.str []) hjl
      have hga : fs.getD j [] = fs[j] := by simp [List.getD_eq_getElem?_getD, List.getElem?_eq_getElem hjl]
      have hlen := q8 fs[j] (List.getElem_mem _)
      have hst := asc_step fs hjl
      have htk : (fs.take (j + 1)).all rightP = rightP fs[j] := by
        rw [List.take_add_one, List.getElem?_eq_getElem hjl, Option.toList_some, List.all_append, j2]; simp
      have hmem : fs[j] ∈ fs := List.getElem_mem _
      have hall : rightP fs[j] = false → fs.all rightP = false := fun h => List.all_eq_false.2 ⟨fs[j], hmem, by rw [h]; simp⟩
      have hasc : ascB (fs.take (j + 1)) = false → ascB fs = false := fun h => by
        cases hh : ascB fs with
        | false => rfl
        | true => rw [ascB_take _ (j + 1) hh] at h; cases h
      rw [j3, Bool.true_and] at hst
      subst hk
      generalize hx : fs[j] = x at *
      cases h1 : rightP x with
      | false =>
        rw [bad3 (hall h1)]
        simp only [b_rgright_2, r_rgright, d1, hget, hga, h1, phiRR_2, rrightS, Int.toNat_natCast, List.length_map, go_sem, Nat.reduceDiv, Nat.reduceMod, ↓reduceIte, Nat.reduceEqDiff, Nat.reduceBEq, Nat.reduceSub, Nat.reduceLT, Nat.reduceAdd, Nat.reduceLeDiff, reduceCtorEq, Int.reduceEq, Int.reduceNe, Int.reduceLT, Int.reduceLE, Int.reduceToNat]
        repeat' apply And.intro
        all_goals first | omega | rfl
      | true =>
        rw [h1] at htk
        by_cases h0 : j = 0
        · have d0 : decide (0 < (j : Int)) = false := decide_eq_false (by omega)
          rw [decide_eq_true h0, Bool.true_or] at hst
          simp only [b_rgright_2, r_rgright, d1, d0, hget, hga, h1, phiRR_2, rrightS, Int.toNat_natCast, List.length_map, go_sem, Nat.reduceDiv, Nat.reduceMod, ↓reduceIte, Nat.reduceEqDiff, Nat.reduceBEq, Nat.reduceSub, Nat.reduceLT, Nat.reduceAdd, Nat.reduceLeDiff, reduceCtorEq, Int.reduceEq, Int.reduceNe, Int.reduceLT, Int.reduceLE, Int.reduceToNat]
          repeat' apply And.intro
          all_goals first | omega | exact hR2 _ (j + 1) ⟨hjl, htk, hst⟩ (by omega) rfl
        · have d0 : decide (0 < (j : Int)) = true := decide_eq_true (by omega)
          rw [decide_eq_false h0, Bool.false_or] at hst
          have e1 : ((j : Int) - 1).toNat = j - 1 := by omega
          have hget1 := getD_map AV.str fs [] (AV.str []) (show j - 1 < fs.length by omega)
          have htri := less_tri (fs.getD (j - 1) []) x
          cases h2 : (Op.bytesLess x (fs.getD (j - 1) []) || decide (x = fs.getD (j - 1) [])) with
          | false =>
            rw [h2] at htri
            rw [htri] at hst
            simp only [b_rgright_2, r_rgright, d1, d0, e1, hget, hget1, hga, h1, h2, phiRR_2, rrightS, Int.toNat_natCast, List.length_map, go_sem, Nat.reduceDiv, Nat.reduceMod, ↓reduceIte, Nat.reduceEqDiff, Nat.reduceBEq, Nat.reduceSub, Nat.reduceLT, Nat.reduceAdd, Nat.reduceLeDiff, reduceCtorEq, Int.reduceEq, Int.reduceNe, Int.reduceLT, Int.reduceLE, Int.reduceToNat]
            repeat' apply And.intro
            all_goals first | omega | exact hR2 _ (j + 1) ⟨hjl, htk, hst⟩ (by omega) rfl
          | true =>
            rw [h2] at htri
            rw [htri] at hst
            rw [bad4 (hasc hst)]
            simp only [b_rgright_2, r_rgright, d1, d0, e1, hget, hget1, hga, h1, h2, phiRR_2, rrightS, Int.toNat_natCast, List.length_map, go_sem, Nat.reduceDiv, Nat.reduceMod, ↓reduceIte, Nat.reduceEqDiff, Nat.reduceBEq, Nat.reduceSub, Nat.reduceLT, Nat.reduceAdd, Nat.reduceLeDiff, reduceCtorEq, Int.reduceEq, Int.reduceNe, Int.reduceLT, Int.reduceLE, Int.reduceToNat]
            repeat' apply And.intro
            all_goals first | omega | rfl
    · have d1 : decide ((j : Int) < (fs.length : Int)) = false := decide_eq_false (by omega)
      rw [List.take_of_length_le (by omega)] at j2 j3
      have hrr : rightH ⟨m1, u, t, z, es, fs, d⟩ = true := by
        unfold rightH
        simp only [i2, i3, j2, j3, hu, decide_eq_true k1, decide_eq_true (by omega : 0 ≤ t), decide_eq_true (by omega : t < 4611686018427387904), decide_eq_true (by omega : -86399 ≤ z), decide_eq_true (by omega : z ≤ 86399)]
        rfl
      rw [hrr]
      simp only [b_rgright_2, t_rgright_0, r_rgright, d1, List.length_map, go_sem, Nat.reduceDiv, Nat.reduceMod, ↓reduceIte, Nat.reduceEqDiff, Nat.reduceBEq, Nat.reduceSub, Nat.reduceLT, Nat.reduceAdd, Nat.reduceLeDiff, reduceCtorEq, Int.reduceEq, Int.reduceNe, Int.reduceLT, Int.reduceLE, Int.reduceToNat]
  · cases hs
def sameH (c d : ChgL) : Bool := decide (c.man = d.man) && decide (c.user = d.user) && decide (c.time = d.time) && decide (c.zone = d.zone) && decide (c.desc = d.desc) && decide (c.extras = d.extras) && decide (c.files = d.files)
theorem sameH_iff {c d : ChgL} : sameH c d = true ↔ c = d := by
  cases c; cases d; simp [sameH]; constructor
  · rintro ⟨⟨⟨⟨⟨⟨rfl, rfl⟩, rfl⟩, rfl⟩, rfl⟩, rfl⟩, rfl⟩; simp
  · rintro ⟨rfl, rfl, rfl, rfl, rfl, rfl, rfl⟩; simp
theorem sameH_self (c : ChgL) : sameH c c = true := sameH_iff.2 rfl
end Go.Proofs.YtfabdnpeohpgnaaGreatDoor
namespace Go.Proofs.YtfabdnpeohpgnaaGreatDoor
set_option linter.all false
open Go.RowKit
def c_ndec : ACode := (.seq (.reg none [⟨(some 2), (.mv (.c (.str []))), none⟩]) (.seq (.reg none [⟨(some 3), (.mv (.t 0)), none⟩, ⟨(some 4), (.call 36 [(.t 3)]), none⟩, ⟨(some 2), (.mv (.t 4)), none⟩]) .ret))
def r_ndec : List ARes := [(.t 2)]
theorem s_ndec : slimF Tryz.prog Tryz.f15 = some (c_ndec, r_ndec) := by kernel_rfl
theorem ndec_ok : FnOk Tryz.prog 15 itoaS := by
  refine fn_slim2 Tryz.func15 s_ndec (Φ := phiL [(36, [], itoaS)]) (phi_cons itoa_ok (by kernel_rfl) phi_nil) ?_
  intro xs hp r hs hp'
  unfold itoaS at hs
  split at hs
  · injection hs with hs; subst hs
    rename_i k
    refine ⟨len_le (by kernel_rfl), ?_⟩
    simp only [c_ndec, r_ndec, itoaS, go_sem, Nat.reduceDiv, Nat.reduceMod, ↓reduceIte, Nat.reduceEqDiff, Nat.reduceBEq, Nat.reduceSub, Nat.reduceLT, Nat.reduceAdd, Nat.reduceLeDiff, reduceCtorEq, Int.reduceEq, Int.reduceNe, Int.reduceLT, Int.reduceLE, Int.reduceToNat]
    first | exact hp' | exact ⟨hp', rfl⟩ | trivial
  · cases hs
end Go.Proofs.YtfabdnpeohpgnaaGreatDoor
