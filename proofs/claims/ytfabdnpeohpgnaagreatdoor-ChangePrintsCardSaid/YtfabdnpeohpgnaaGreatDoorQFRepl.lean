import Derived.Test.YtfabdnpeohpgnaaGreatDoorQT2p
import Derived.Lib.ReplaceLaws
import Derived.Test.YtfabdnpeohpgnaaGreatDoorQRunes
import Derived.Test.YtfabdnpeohpgnaaGreatDoorQFGLine
import Derived.Test.YtfabdnpeohpgnaaGreatDoorQFRight2
import Derived.Test.YtfabdnpeohpgnaaGreatDoorQShelf
import Derived.Lib.ItoaLen
namespace Go.Proofs.YtfabdnpeohpgnaaGreatDoor
set_option linter.all false
open Go.RowKit
open Go.Lib (index replaceAll)
theorem contains_1 (s : List UInt8) (c : UInt8) : Lib.contains s [c] = s.contains c := by
  unfold Lib.contains
  rw [Bool.eq_iff_iff]
  rcases Lib.index_spec s [c] with h1 | ⟨i, h1, h2, h3, h4⟩
  · have hn : c ∉ s := by
      intro hm
      obtain ⟨a, b, rfl, _⟩ := mem_split hm
      have := h1.2 a.length (by simp)
      rw [show a ++ c :: b = a ++ ([c] ++ b) from rfl, occAt_append] at this
      cases this
    have e : index s [c] = -1 := h1.1
    simp [e, hn]
  · have hm := List.mem_of_getElem? (occAt_1 h3)
    simp [h1, hm]
def containsS : Spec := fun xs hp => match xs, hp with
  | [.str s, .str [c]], [] => some ⟨.bool (s.contains c), [], s.length ≤ 1000000⟩
  | _, _ => none
theorem contains_ok : FnOk Tryz.prog 35 containsS := by
  refine fnok_of_calls fun xs0 hp r hs hp' => ?_
  unfold containsS at hs
  split at hs
  · rename_i s c
    injection hs with hs; subst hs
    have p1 : s.length ≤ 1000000 := hp'
    refine ⟨rfl, rfl, fun w S ρ args hS ha => ?_⟩
    obtain ⟨v, vs, rfl, hv, hr⟩ := ha.get _ _ rfl
    obtain ⟨u, us, rfl, hu, hr⟩ := hr.get _ _ rfl
    obtain rfl := hr.none
    rw [hv.str, hu.str]
    obtain ⟨m, hm⟩ := maxLen_cell ha.glob
    refine (Tryz.strings_Contains ⟨s.toArray⟩ ⟨[c].toArray⟩ m w (show s.length < 4294967281 by omega) hm).mono ?_
    rintro e w' ⟨rfl, rfl⟩
    refine ⟨_, rfl, Below.refl _ _, fun _ _ _ => ?_⟩
    show Vl _ _ _ (.bool (s.contains c)) (.bool (Lib.contains s [c]))
    rw [contains_1]
    exact Vl.bool' _
  · cases hs
end Go.Proofs.YtfabdnpeohpgnaaGreatDoor
namespace Go.Proofs.YtfabdnpeohpgnaaGreatDoor
set_option linter.all false
open Go.RowKit
open Go.Lib (index hasPrefix trimPrefix cut indexAny itoa)
theorem ascB_snoc : ∀ (l : List (List UInt8)) (x : List UInt8), ascB (l ++ [x]) = (ascB l && (l.getLast?.all fun y => Op.bytesLess y x))
  | [], x => rfl
  | [a], x => by simp [ascB]
  | a :: b :: r, x => by
    have ih := ascB_snoc (b :: r) x
    rw [List.cons_append, List.cons_append, ascB, ← List.cons_append, ih, ascB, Bool.and_assoc]
    simp
theorem ascB_take : ∀ (l : List (List UInt8)) (k : Nat), ascB l = true → ascB (l.take k) = true
  | [], k, h => by simp [ascB]
  | [a], k, h => by cases k <;> simp [ascB]
  | a :: b :: r, k, h => by
    rw [ascB, Bool.and_eq_true] at h
    match k with
    | 0 => rfl
    | 1 => rfl
    | k + 2 =>
      have ih := ascB_take (b :: r) (k + 1) h.2
      rw [List.take_succ_cons, List.take_succ_cons] at *
      rw [ascB, h.1, ih]; rfl
theorem asc_step (l : List (List UInt8)) {i : Nat} (h : i < l.length) : ascB (l.take (i + 1)) = (ascB (l.take i) && (decide (i = 0) || Op.bytesLess (l.getD (i - 1) []) l[i])) := by
  rw [List.take_add_one, List.getElem?_eq_getElem h, Option.toList_some, ascB_snoc]
  congr 1
  cases i with
  | zero => simp
  | succ i =>
    have : (l.take (i + 1)).getLast? = some (l.getD i []) := by
      rw [List.take_add_one, List.getElem?_eq_getElem (by omega), Option.toList_some, List.getLast?_append]
      simp [List.getD_eq_getElem?_getD, List.getElem?_eq_getElem (show i < l.length by omega)]
    rw [this]; simp
def grightS : Spec := fun xs hp => match xs, hp with
  | [.agg [(20, .blob m), (1, .str u), (1, .int .i64 t), (1, .int .i64 z), (1, .sl ke es), (1, .sl kf fs), (1, .str d)]], [] =>
    some ⟨.bool (rightH ⟨unV m, u, t, z, es.map unEx, fs.map unS, d⟩), [], es = (es.map unEx).map exV ∧ fs = (fs.map unS).map AV.str ∧ (ke = 2 ∨ es = []) ∧ (kf = 1 ∨ fs = []) ∧ es.length ≤ 1000000 ∧ fs.length ≤ 1000000 ∧
      (∀ x ∈ es.map unEx, x.1.length ≤ 1000000000) ∧ (∀ f ∈ fs.map unS, f.length ≤ 1000000000) ∧ u.length ≤ 1000000⟩
  | _, _ => none
def phiGR : Phi := phiL [(33, [], gkeyedS), (34, [], nrightS), (35, [], containsS)]
theorem phiGR_ok : PhiOk Tryz.prog phiGR := phi_cons gkeyed_ok (by kernel_rfl) (phi_cons nright_ok (by kernel_rfl) (phi_cons contains_ok (by kernel_rfl) phi_nil))
theorem phiGR_1 : phiGR 33 = some ([], gkeyedS) := rfl
theorem phiGR_2 : phiGR 34 = some ([], nrightS) := rfl
theorem phiGR_3 : phiGR 35 = some ([], containsS) := rfl
set_option maxHeartbeats 4000000 in
theorem gright_ok : FnOk Tryz.prog 14 grightS := by
  refine fn_slim2 Tryz.func14 s_gright phiGR_ok ?_
  intro xs hp r hs hp'
  unfold grightS at hs
  split at hs
  · injection hs with hs; subst hs
    rename_i m u t z ke es kf fs d
    obtain ⟨q1, q2, q3, q4, q5, q6, q7, q8, q9⟩ := hp'
    generalize unV m = m1 at *
    generalize es.map unEx = es at *
    subst q1
    generalize fs.map unS = fs at *
    subst q2
    rw [List.length_map] at q5 q6
    refine ⟨len_le (by kernel_rfl), ?_⟩
    have bad1 : (es.all fun x => keyedB x.1) = false → rightH ⟨m1, u, t, z, es, fs, d⟩ = false := fun h => by unfold rightH; simp only [h, Bool.and_false, Bool.false_and]
    have bad2 : ascB (es.map Prod.fst) = false → rightH ⟨m1, u, t, z, es, fs, d⟩ = false := fun h => by unfold rightH; simp only [h, Bool.and_false, Bool.false_and]
    have bad3 : fs.all rightP = false → rightH ⟨m1, u, t, z, es, fs, d⟩ = false := fun h => by unfold rightH; simp only [h, Bool.and_false, Bool.false_and]
    have bad4 : ascB fs = false → rightH ⟨m1, u, t, z, es, fs, d⟩ = false := fun h => by unfold rightH; simp only [h, Bool.and_false]
    simp only [c_gright, go_sem, Nat.reduceDiv, Nat.reduceMod, ↓reduceIte, Nat.reduceEqDiff, Nat.reduceBEq, Nat.reduceSub, Nat.reduceLT, Nat.reduceAdd, Nat.reduceLeDiff, reduceCtorEq, Int.reduceEq, Int.reduceNe, Int.reduceLT, Int.reduceLE, Int.reduceToNat]
    refine loop2P [] [1, 8, 9, 10] [0] (fun i : Nat => ⟨[(1, .ref 0 0 0), (8, .sl ke (es.map exV)), (9, .int .i64 (es.length : Int)), (10, .int .i64 (i : Int))], [.cells 30 [(20, .blob m), (1, .str u), (1, .int .i64 t), (1, .int .i64 z), (1, .sl ke (es.map exV)), (1, .sl kf (fs.map AV.str)), (1, .str d)]]⟩)
      (fun i => i ≤ es.length ∧ ((es.take i).all fun x => keyedB x.1) = true ∧ ascB ((es.map Prod.fst).take i) = true) (fun i => es.length - i) 0 (by rfl) ⟨Nat.zero_le _, by simp, by simp [ascB]⟩ ⟨rfl, by rfl⟩ (fun i hi R hR => ?_)
    obtain ⟨i1, i2, i3⟩ := hi
    by_cases hil : i < es.length
    · have c1 : decide ((i : Int) < (es.length : Int)) = true := decide_eq_true (by omega)
      have hk : ke = 2 := q3.resolve_right (by intro h; have := congrArg List.length h; simp at this; rw [this] at hil; simp at hil)
      have hz : (AV.agg [(1, AV.str []), (1, AV.str [])]) = exV ([], []) := rfl
      have hget := getD_map exV es ([], []) (AV.agg [(1, AV.str []), (1, AV.str [])]) hil
      have hga : es.getD i ([], []) = es[i] := by simp [List.getD_eq_getElem?_getD, List.getElem?_eq_getElem hil]
      have hlen := q7 es[i] (List.getElem_mem _)
      have hst := asc_step (es.map Prod.fst) (i := i) (by rw [List.length_map]; exact hil)
      rw [List.getElem_map] at hst
      have htk : (es.take (i + 1)).all (fun x => keyedB x.1) = keyedB es[i].1 := by
        rw [List.take_add_one, List.getElem?_eq_getElem hil, Option.toList_some, List.all_append, i2]; simp
      have hmem : es[i] ∈ es := List.getElem_mem _
      have hall : keyedB es[i].1 = false → (es.all fun x => keyedB x.1) = false := fun h => List.all_eq_false.2 ⟨es[i], hmem, by rw [h]; simp⟩
      have hasc : ascB ((es.map Prod.fst).take (i + 1)) = false → ascB (es.map Prod.fst) = false := fun h => by
        cases hh : ascB (es.map Prod.fst) with
        | false => rfl
        | true => rw [ascB_take _ (i + 1) hh] at h; cases h
      rw [i3, Bool.true_and] at hst
      subst hk
      generalize hx : es[i] = x at *
      cases h1 : keyedB x.1 with
      | false =>
        rw [bad1 (hall h1)]
        simp only [b_gright_0, r_gright, c1, hget, hga, exV, h1, phiGR_1, gkeyedS, Int.toNat_natCast, List.length_map, go_sem, Nat.reduceDiv, Nat.reduceMod, ↓reduceIte, Nat.reduceEqDiff, Nat.reduceBEq, Nat.reduceSub, Nat.reduceLT, Nat.reduceAdd, Nat.reduceLeDiff, reduceCtorEq, Int.reduceEq, Int.reduceNe, Int.reduceLT, Int.reduceLE, Int.reduceToNat]
        exact ⟨⟨by omega, by omega⟩, hlen⟩
      | true =>
        rw [h1] at htk
        by_cases h0 : i = 0
        · have d0 : decide (0 < (i : Int)) = false := decide_eq_false (by omega)
          rw [decide_eq_true h0, Bool.true_or] at hst
          simp only [b_gright_0, r_gright, c1, d0, hget, hga, exV, h1, phiGR_1, gkeyedS, Int.toNat_natCast, List.length_map, go_sem, Nat.reduceDiv, Nat.reduceMod, ↓reduceIte, Nat.reduceEqDiff, Nat.reduceBEq, Nat.reduceSub, Nat.reduceLT, Nat.reduceAdd, Nat.reduceLeDiff, reduceCtorEq, Int.reduceEq, Int.reduceNe, Int.reduceLT, Int.reduceLE, Int.reduceToNat]
          exact ⟨⟨by omega, by omega⟩, hlen, ⟨by omega, by omega⟩, hR _ (i + 1) ⟨hil, htk, hst⟩ (by omega) rfl⟩
        · have d0 : decide (0 < (i : Int)) = true := decide_eq_true (by omega)
          rw [decide_eq_false h0, Bool.false_or] at hst
          have e1 : ((i : Int) - 1).toNat = i - 1 := by omega
          have hget1 := getD_map exV es ([], []) (AV.agg [(1, AV.str []), (1, AV.str [])]) (show i - 1 < es.length by omega)
          have hkg : (es.map Prod.fst).getD (i - 1) [] = (es.getD (i - 1) ([], [])).1 := by
            simp [List.getD_eq_getElem?_getD, List.getElem?_eq_getElem (show i - 1 < es.length by omega)]
          rw [hkg] at hst
          cases h2 : Op.bytesLess (es.getD (i - 1) ([], [])).1 x.1 with
          | true =>
            rw [h2] at hst
            simp only [b_gright_0, r_gright, c1, d0, e1, hget, hget1, hga, exV, h1, h2, phiGR_1, gkeyedS, Int.toNat_natCast, List.length_map, go_sem, Nat.reduceDiv, Nat.reduceMod, ↓reduceIte, Nat.reduceEqDiff, Nat.reduceBEq, Nat.reduceSub, Nat.reduceLT, Nat.reduceAdd, Nat.reduceLeDiff, reduceCtorEq, Int.reduceEq, Int.reduceNe, Int.reduceLT, Int.reduceLE, Int.reduceToNat]
            exact ⟨⟨by omega, by omega⟩, hlen, ⟨by omega, by omega⟩, ⟨by omega, by omega⟩, ⟨by omega, by omega⟩, hR _ (i + 1) ⟨hil, htk, hst⟩ (by omega) rfl⟩
          | false =>
            rw [h2] at hst
            rw [bad2 (hasc hst)]
            simp only [b_gright_0, r_gright, c1, d0, e1, hget, hget1, hga, exV, h1, h2, phiGR_1, gkeyedS, Int.toNat_natCast, List.length_map, go_sem, Nat.reduceDiv, Nat.reduceMod, ↓reduceIte, Nat.reduceEqDiff, Nat.reduceBEq, Nat.reduceSub, Nat.reduceLT, Nat.reduceAdd, Nat.reduceLeDiff, reduceCtorEq, Int.reduceEq, Int.reduceNe, Int.reduceLT, Int.reduceLE, Int.reduceToNat]
            exact ⟨⟨by omega, by omega⟩, hlen, ⟨by omega, by omega⟩, by omega, by omega⟩
    · have c1 : decide ((i : Int) < (es.length : Int)) = false := decide_eq_false (by omega)
      rw [List.take_of_length_le (by omega)] at i2
      rw [List.take_of_length_le (by rw [List.length_map]; omega)] at i3
      simp only [b_gright_0, t_gright_1, c1, go_sem, Nat.reduceDiv, Nat.reduceMod, ↓reduceIte, Nat.reduceEqDiff, Nat.reduceBEq, Nat.reduceSub, Nat.reduceLT, Nat.reduceAdd, Nat.reduceLeDiff, reduceCtorEq, Int.reduceEq, Int.reduceNe, Int.reduceLT, Int.reduceLE, Int.reduceToNat]
      refine loop2P [] [1, 37, 38, 39] [0] (fun j : Nat => ⟨[(1, .ref 0 0 0), (37, .sl kf (fs.map AV.str)), (38, .int .i64 (fs.length : Int)), (39, .int .i64 (j : Int))], [.cells 30 [(20, .blob m), (1, .str u), (1, .int .i64 t), (1, .int .i64 z), (1, .sl ke (es.map exV)), (1, .sl kf (fs.map AV.str)), (1, .str d)]]⟩)
        (fun j => j ≤ fs.length ∧ (fs.take j).all rightP = true ∧ ascB (fs.take j) = true) (fun j => fs.length - j) 0 (by rfl) ⟨Nat.zero_le _, by simp, by simp [ascB]⟩ ⟨rfl, by rfl⟩ (fun j hj R2 hR2 => ?_)
      obtain ⟨j1, j2, j3⟩ := hj
      by_cases hjl : j < fs.length
      · have d1 : decide ((j : Int) < (fs.length : Int)) = true := decide_eq_true (by omega)
        have hk : kf = 1 := q4.resolve_right (by intro h; have := congrArg List.length h; simp at this; rw [this] at hjl; simp at hjl)
        have hget := getD_map AV.str fs [] (AV.str []) hjl
        have hga : fs.getD j [] = fs[j] := by simp [List.getD_eq_getElem?_getD, List.getElem?_eq_getElem hjl]
        have hlen := q8 fs[j] (List.getElem_mem _)
        have hst := asc_step fs hjl
        have htk : (fs.take (j + 1)).all rightP = rightP fs[j] := by
          rw [List.take_add_one, List.getElem?_eq_getElem hjl, Option.toList_some, List.all_append, j2]; simp
        have hmem : fs[j] ∈ fs := List.getElem_mem _
        have hall : rightP fs[j] = false → fs.all rightP = false := fun h => List.all_eq_false.2 ⟨fs[j], hmem, by rw [h]; simp⟩
        have hasc : ascB (fs.take (j + 1)) = false → ascB fs = false := fun h => by
          cases hh : ascB fs with
          | false => rfl
          | true => rw [ascB_take _ (j + 1) hh] at h; cases h
        rw [j3, Bool.true_and] at hst
        subst hk
        generalize hx : fs[j] = x at *
        cases h1 : rightP x with
        | false =>
          rw [bad3 (hall h1)]
          simp only [b_gright_1, r_gright, d1, hget, hga, h1, phiGR_2, nrightS, Int.toNat_natCast, List.length_map, go_sem, Nat.reduceDiv, Nat.reduceMod, ↓reduceIte, Nat.reduceEqDiff, Nat.reduceBEq, Nat.reduceSub, Nat.reduceLT, Nat.reduceAdd, Nat.reduceLeDiff, reduceCtorEq, Int.reduceEq, Int.reduceNe, Int.reduceLT, Int.reduceLE, Int.reduceToNat]
          exact ⟨⟨by omega, by omega⟩, hlen⟩
        | true =>
          rw [h1] at htk
          by_cases h0 : j = 0
          · have d0 : decide (0 < (j : Int)) = false := decide_eq_false (by omega)
            rw [decide_eq_true h0, Bool.true_or] at hst
            simp only [b_gright_1, r_gright, d1, d0, hget, hga, h1, phiGR_2, nrightS, Int.toNat_natCast, List.length_map, go_sem, Nat.reduceDiv, Nat.reduceMod, ↓reduceIte, Nat.reduceEqDiff, Nat.reduceBEq, Nat.reduceSub, Nat.reduceLT, Nat.reduceAdd, Nat.reduceLeDiff, reduceCtorEq, Int.reduceEq, Int.reduceNe, Int.reduceLT, Int.reduceLE, Int.reduceToNat]
            exact ⟨⟨by omega, by omega⟩, hlen, ⟨by omega, by omega⟩, hR2 _ (j + 1) ⟨hjl, htk, hst⟩ (by omega) rfl⟩
          · have d0 : decide (0 < (j : Int)) = true := decide_eq_true (by omega)
            rw [decide_eq_false h0, Bool.false_or] at hst
            have e1 : ((j : Int) - 1).toNat = j - 1 := by omega
            have hget1 := getD_map AV.str fs [] (AV.str []) (show j - 1 < fs.length by omega)
            cases h2 : Op.bytesLess (fs.getD (j - 1) []) x with
            | true =>
              rw [h2] at hst
              simp only [b_gright_1, r_gright, d1, d0, e1, hget, hget1, hga, h1, h2, phiGR_2, nrightS, Int.toNat_natCast, List.length_map, go_sem, Nat.reduceDiv, Nat.reduceMod, ↓reduceIte, Nat.reduceEqDiff, Nat.reduceBEq, Nat.reduceSub, Nat.reduceLT, Nat.reduceAdd, Nat.reduceLeDiff, reduceCtorEq, Int.reduceEq, Int.reduceNe, Int.reduceLT, Int.reduceLE, Int.reduceToNat]
              exact ⟨⟨by omega, by omega⟩, hlen, ⟨by omega, by omega⟩, ⟨by omega, by omega⟩, ⟨by omega, by omega⟩, hR2 _ (j + 1) ⟨hjl, htk, hst⟩ (by omega) rfl⟩
            | false =>
              rw [h2] at hst
              rw [bad4 (hasc hst)]
              simp only [b_gright_1, r_gright, d1, d0, e1, hget, hget1, hga, h1, h2, phiGR_2, nrightS, Int.toNat_natCast, List.length_map, go_sem, Nat.reduceDiv, Nat.reduceMod, ↓reduceIte, Nat.reduceEqDiff, Nat.reduceBEq, Nat.reduceSub, Nat.reduceLT, Nat.reduceAdd, Nat.reduceLeDiff, reduceCtorEq, Int.reduceEq, Int.reduceNe, Int.reduceLT, Int.reduceLE, Int.reduceToNat]
              exact ⟨⟨by omega, by omega⟩, hlen, ⟨by omega, by omega⟩, by omega, by omega⟩
      · have d1 : decide ((j : Int) < (fs.length : Int)) = false := decide_eq_false (by omega)
        rw [List.take_of_length_le (by omega)] at j2 j3
        have hrr : rightH ⟨m1, u, t, z, es, fs, d⟩ = (((((!decide (u = []) && !u.contains 10) && decide (0 ≤ t)) && decide (t < 4611686018427387904)) && decide (-86399 ≤ z)) && decide (z ≤ 86399)) := by
          unfold rightH
          simp only [i2, i3, j2, j3, Bool.and_true]
          simp
        rw [hrr]
        cases a1 : decide (u = []) with
        | true => simp only [a1, b_gright_1, t_gright_0, r_gright, d1, phiGR_3, containsS, Bool.false_and, Bool.true_and, Bool.not_true, Bool.not_false, go_sem, Nat.reduceDiv, Nat.reduceMod, ↓reduceIte, Nat.reduceEqDiff, Nat.reduceBEq, Nat.reduceSub, Nat.reduceLT, Nat.reduceAdd, Nat.reduceLeDiff, reduceCtorEq, Int.reduceEq, Int.reduceNe, Int.reduceLT, Int.reduceLE, Int.reduceToNat]
        | false =>
        cases a2 : u.contains 10 with
        | true =>
          simp only [a1, a2, b_gright_1, t_gright_0, r_gright, d1, phiGR_3, containsS, Bool.false_and, Bool.true_and, Bool.not_true, Bool.not_false, go_sem, Nat.reduceDiv, Nat.reduceMod, ↓reduceIte, Nat.reduceEqDiff, Nat.reduceBEq, Nat.reduceSub, Nat.reduceLT, Nat.reduceAdd, Nat.reduceLeDiff, reduceCtorEq, Int.reduceEq, Int.reduceNe, Int.reduceLT, Int.reduceLE, Int.reduceToNat]
          exact q9
        | false =>
        cases a3 : decide (0 ≤ t) with
        | false =>
          simp only [a1, a2, a3, b_gright_1, t_gright_0, r_gright, d1, phiGR_3, containsS, Bool.false_and, Bool.true_and, Bool.not_true, Bool.not_false, go_sem, Nat.reduceDiv, Nat.reduceMod, ↓reduceIte, Nat.reduceEqDiff, Nat.reduceBEq, Nat.reduceSub, Nat.reduceLT, Nat.reduceAdd, Nat.reduceLeDiff, reduceCtorEq, Int.reduceEq, Int.reduceNe, Int.reduceLT, Int.reduceLE, Int.reduceToNat]
          exact q9
        | true =>
        cases a4 : decide (t < 4611686018427387904) with
        | false =>
          simp only [a1, a2, a3, a4, b_gright_1, t_gright_0, r_gright, d1, phiGR_3, containsS, Bool.false_and, Bool.true_and, Bool.not_true, Bool.not_false, go_sem, Nat.reduceDiv, Nat.reduceMod, ↓reduceIte, Nat.reduceEqDiff, Nat.reduceBEq, Nat.reduceSub, Nat.reduceLT, Nat.reduceAdd, Nat.reduceLeDiff, reduceCtorEq, Int.reduceEq, Int.reduceNe, Int.reduceLT, Int.reduceLE, Int.reduceToNat]
          exact q9
        | true =>
        cases a5 : decide (-86399 ≤ z) with
        | false =>
          simp only [a1, a2, a3, a4, a5, b_gright_1, t_gright_0, r_gright, d1, phiGR_3, containsS, Bool.false_and, Bool.true_and, Bool.not_true, Bool.not_false, go_sem, Nat.reduceDiv, Nat.reduceMod, ↓reduceIte, Nat.reduceEqDiff, Nat.reduceBEq, Nat.reduceSub, Nat.reduceLT, Nat.reduceAdd, Nat.reduceLeDiff, reduceCtorEq, Int.reduceEq, Int.reduceNe, Int.reduceLT, Int.reduceLE, Int.reduceToNat]
          exact q9
        | true =>
          simp only [a1, a2, a3, a4, a5, b_gright_1, t_gright_0, r_gright, d1, phiGR_3, containsS, Bool.false_and, Bool.true_and, Bool.not_true, Bool.not_false, go_sem, Nat.reduceDiv, Nat.reduceMod, ↓reduceIte, Nat.reduceEqDiff, Nat.reduceBEq, Nat.reduceSub, Nat.reduceLT, Nat.reduceAdd, Nat.reduceLeDiff, reduceCtorEq, Int.reduceEq, Int.reduceNe, Int.reduceLT, Int.reduceLE, Int.reduceToNat]
          exact q9
  · cases hs
end Go.Proofs.YtfabdnpeohpgnaaGreatDoor
namespace Go.Proofs.YtfabdnpeohpgnaaGreatDoor
set_option linter.all false
open Go.RowKit
open Go.Lib (index hasPrefix cut indexAny itoa decDigits)
theorem less_tri : ∀ a b : List UInt8, Op.bytesLess a b = !(Op.bytesLess b a || decide (b = a))
  | [], [] => by simp [Op.bytesLess]
  | [], y :: b => by simp [Op.bytesLess]
  | x :: a, [] => by simp [Op.bytesLess]
  | x :: a, y :: b => by
    have ih := less_tri a b
    unfold Op.bytesLess
    rcases Nat.lt_trichotomy x.toNat y.toNat with h | h | h
    · have h1 : x < y := h
      have h2 : ¬ y < x := by intro hh; have : y.toNat < x.toNat := hh; omega
      have h3 : y ≠ x := by intro e; rw [e] at h; omega
      simp [h1, h2, h3]
    · have e : x = y := UInt8.toNat_inj.1 h
      subst e
      have h1 : ¬ x < x := by intro hh; have : x.toNat < x.toNat := hh; omega
      simp [h1, ih]
    · have h1 : ¬ x < y := by intro hh; have : x.toNat < y.toNat := hh; omega
      have h2 : y < x := h
      have h3 : x ≠ y := by intro e; rw [e] at h; omega
      simp [h1, h2, h3]
end Go.Proofs.YtfabdnpeohpgnaaGreatDoor
namespace Go.Proofs.YtfabdnpeohpgnaaGreatDoor
set_option linter.all false
open Go.RowKit
open Go.Lib (index hasPrefix cut indexAny itoa)
def rgrightS : Spec := fun xs hp => match xs, hp with
  | [.agg [(20, .blob m), (1, .str u), (1, .int .i64 t), (1, .int .i64 z), (1, .sl ke es), (1, .sl kf fs), (1, .str d)]], [] =>
    some ⟨.bool (rightH ⟨unV m, u, t, z, es.map unEx, fs.map unS, d⟩), [], es = (es.map unEx).map exV ∧ fs = (fs.map unS).map AV.str ∧ (ke = 2 ∨ es = []) ∧ (kf = 1 ∨ fs = []) ∧ es.length ≤ 1000000 ∧ fs.length ≤ 1000000 ∧
      (∀ x ∈ es.map unEx, x.1.length ≤ 1000000000) ∧ (∀ f ∈ fs.map unS, f.length ≤ 1000000) ∧ u.length ≤ 1000000⟩
  | _, _ => none
def phiRR : Phi := phiL [(19, [], rgkeyedS), (20, [], rrightS)]
theorem phiRR_ok : PhiOk Tryz.prog phiRR := phi_cons rgkeyed_ok (by kernel_rfl) (phi_cons rright_ok (by kernel_rfl) phi_nil)
theorem phiRR_1 : phiRR 19 = some ([], rgkeyedS) := rfl
theorem phiRR_2 : phiRR 20 = some ([], rrightS) := rfl
set_option maxHeartbeats 4000000 in
theorem rgright_ok : FnOk Tryz.prog 8 rgrightS := by
  refine fn_slim2 Tryz.func8 s_rgright phiRR_ok ?_
  intro xs hp r hs hp'
  unfold rgrightS at hs
  split at hs
  · injection hs with hs; subst hs
    rename_i m u t z ke es kf fs d
    obtain ⟨q1, q2, q3, q4, q5, q6, q7, q8, q9⟩ := hp'
    generalize unV m = m1 at *
    generalize es.map unEx = es at *
    subst q1
    generalize fs.map unS = fs at *
    subst q2
    rw [List.length_map] at q5 q6
    refine ⟨len_le (by kernel_rfl), ?_⟩
    have bad1 : (es.all fun x => keyedB x.1) = false → rightH ⟨m1, u, t, z, es, fs, d⟩ = false := fun h => by unfold rightH; simp only [h, Bool.and_false, Bool.false_and]
    have bad2 : ascB (es.map Prod.fst) = false → rightH ⟨m1, u, t, z, es, fs, d⟩ = false := fun h => by unfold rightH; simp only [h, Bool.and_false, Bool.false_and]
    have bad3 : fs.all rightP = false → rightH ⟨m1, u, t, z, es, fs, d⟩ = false := fun h => by unfold rightH; simp only [h, Bool.and_false, Bool.false_and]
    have bad4 : ascB fs = false → rightH ⟨m1, u, t, z, es, fs, d⟩ = false := fun h => by unfold rightH; simp only [h, Bool.and_false]
    have bad5 : u = [] → rightH ⟨m1, u, t, z, es, fs, d⟩ = false := fun h => by unfold rightH; simp [h]
    have bad6 : u.contains 10 = true → rightH ⟨m1, u, t, z, es, fs, d⟩ = false := fun h => by unfold rightH; simp only [h, Bool.not_true, Bool.and_false, Bool.false_and]
    have bad7 : t < 0 → rightH ⟨m1, u, t, z, es, fs, d⟩ = false := fun h => by unfold rightH; simp only [decide_eq_false (by omega : ¬ 0 ≤ t), Bool.and_false, Bool.false_and]
    have bad8 : 4611686018427387904 ≤ t → rightH ⟨m1, u, t, z, es, fs, d⟩ = false := fun h => by unfold rightH; simp only [decide_eq_false (by omega : ¬ t < 4611686018427387904), Bool.and_false, Bool.false_and]
    have bad9 : z < -86399 → rightH ⟨m1, u, t, z, es, fs, d⟩ = false := fun h => by unfold rightH; simp only [decide_eq_false (by omega : ¬ -86399 ≤ z), Bool.and_false, Bool.false_and]
    have bad0 : 86399 < z → rightH ⟨m1, u, t, z, es, fs, d⟩ = false := fun h => by unfold rightH; simp only [decide_eq_false (by omega : ¬ z ≤ 86399), Bool.and_false, Bool.false_and]
    by_cases k1 : u = []
    · have a1 : decide ((u.length : Int) = 0) = true := decide_eq_true (by rw [k1]; rfl)
      rw [bad5 k1]
      simp only [c_rgright, r_rgright, a1, go_sem, Nat.reduceDiv, Nat.reduceMod, ↓reduceIte, Nat.reduceEqDiff, Nat.reduceBEq, Nat.reduceSub, Nat.reduceLT, Nat.reduceAdd, Nat.reduceLeDiff, reduceCtorEq, Int.reduceEq, Int.reduceNe, Int.reduceLT, Int.reduceLE, Int.reduceToNat]
    have hul : u.length ≠ 0 := fun h => k1 (List.length_eq_zero_iff.1 h)
    have a1 : decide ((u.length : Int) = 0) = false := decide_eq_false (by omega)
    by_cases k2 : t < 0
    · have a2 : decide (t < 0) = true := decide_eq_true k2
      rw [bad7 k2]
      simp only [c_rgright, r_rgright, a1, a2, go_sem, Nat.reduceDiv, Nat.reduceMod, ↓reduceIte, Nat.reduceEqDiff, Nat.reduceBEq, Nat.reduceSub, Nat.reduceLT, Nat.reduceAdd, Nat.reduceLeDiff, reduceCtorEq, Int.reduceEq, Int.reduceNe, Int.reduceLT, Int.reduceLE, Int.reduceToNat]
    have a2 : decide (t < 0) = false := decide_eq_false k2
    by_cases k3 : 4611686018427387904 ≤ t
    · have a3 : decide (4611686018427387904 ≤ t) = true := decide_eq_true k3
      rw [bad8 k3]
      simp only [c_rgright, r_rgright, a1, a2, a3, go_sem, Nat.reduceDiv, Nat.reduceMod, ↓reduceIte, Nat.reduceEqDiff, Nat.reduceBEq, Nat.reduceSub, Nat.reduceLT, Nat.reduceAdd, Nat.reduceLeDiff, reduceCtorEq, Int.reduceEq, Int.reduceNe, Int.reduceLT, Int.reduceLE, Int.reduceToNat]
    have a3 : decide (4611686018427387904 ≤ t) = false := decide_eq_false k3
    by_cases k4 : z < -86399
    · have a4 : decide (z < -86399) = true := decide_eq_true k4
      rw [bad9 k4]
      simp only [c_rgright, r_rgright, a1, a2, a3, a4, go_sem, Nat.reduceDiv, Nat.reduceMod, ↓reduceIte, Nat.reduceEqDiff, Nat.reduceBEq, Nat.reduceSub, Nat.reduceLT, Nat.reduceAdd, Nat.reduceLeDiff, reduceCtorEq, Int.reduceEq, Int.reduceNe, Int.reduceLT, Int.reduceLE, Int.reduceToNat]
    have a4 : decide (z < -86399) = false := decide_eq_false k4
    by_cases k5 : 86399 < z
    · have a5 : decide (86399 < z) = true := decide_eq_true k5
      rw [bad0 k5]
      simp only [c_rgright, r_rgright, a1, a2, a3, a4, a5, go_sem, Nat.reduceDiv, Nat.reduceMod, ↓reduceIte, Nat.reduceEqDiff, Nat.reduceBEq, Nat.reduceSub, Nat.reduceLT, Nat.reduceAdd, Nat.reduceLeDiff, reduceCtorEq, Int.reduceEq, Int.reduceNe, Int.reduceLT, Int.reduceLE, Int.reduceToNat]
    have a5 : decide (86399 < z) = false := decide_eq_false k5
    simp only [c_rgright, a1, a2, a3, a4, a5, go_sem, Nat.reduceDiv, Nat.reduceMod, ↓reduceIte, Nat.reduceEqDiff, Nat.reduceBEq, Nat.reduceSub, Nat.reduceLT, Nat.reduceAdd, Nat.reduceLeDiff, reduceCtorEq, Int.reduceEq, Int.reduceNe, Int.reduceLT, Int.reduceLE, Int.reduceToNat]
    refine loop2P [] [1, 3] [0] (fun i : Nat => ⟨[(1, .ref 0 0 0), (3, .int .i64 (i : Int))], [.cells 26 [(20, .blob m), (1, .str u), (1, .int .i64 t), (1, .int .i64 z), (1, .sl ke (es.map exV)), (1, .sl kf (fs.map AV.str)), (1, .str d)]]⟩)
      (fun i => i ≤ u.length ∧ (10 : UInt8) ∉ u.take i) (fun i => u.length - i) 0 (by rfl) ⟨Nat.zero_le _, by simp⟩ ⟨rfl, by rfl⟩ (fun i hi R hR => ?_)
    obtain ⟨i1, i2⟩ := hi
    by_cases hil : i < u.length
    · have c1 : decide ((i : Int) < (u.length : Int)) = true := decide_eq_true (by omega)
      have hat := at8_nat hil
      have g1 : decide (((u[i].toNat : Nat) : Int) = 10) = decide (u[i] = 10) := u8_eq u[i] 10
      by_cases h : u[i] = 10
      · have d1 : decide (u[i] = 10) = true := decide_eq_true h
        rw [bad6 (List.contains_iff_mem.2 (by rw [← h]; exact List.getElem_mem _))]
        simp only [b_rgright_0, r_rgright, c1, hat, g1, d1, Int.toNat_natCast, go_sem, Nat.reduceDiv, Nat.reduceMod, ↓reduceIte, Nat.reduceEqDiff, Nat.reduceBEq, Nat.reduceSub, Nat.reduceLT, Nat.reduceAdd, Nat.reduceLeDiff, reduceCtorEq, Int.reduceEq, Int.reduceNe, Int.reduceLT, Int.reduceLE, Int.reduceToNat]
        repeat' apply And.intro
        all_goals first | omega | rfl
      · have d1 : decide (u[i] = 10) = false := decide_eq_false h
        simp only [b_rgright_0, r_rgright, c1, hat, g1, d1, Int.toNat_natCast, go_sem, Nat.reduceDiv, Nat.reduceMod, ↓reduceIte, Nat.reduceEqDiff, Nat.reduceBEq, Nat.reduceSub, Nat.reduceLT, Nat.reduceAdd, Nat.reduceLeDiff, reduceCtorEq, Int.reduceEq, Int.reduceNe, Int.reduceLT, Int.reduceLE, Int.reduceToNat]
        refine ⟨⟨by omega, by omega⟩, ⟨by omega, by omega⟩, hR _ (i + 1) ⟨hil, fun hm => ?_⟩ (by omega) rfl⟩
        rcases (takeS_mem hil).1 hm with hm | hm
        · exact i2 hm
        · exact h hm.symm
    have c0 : decide ((i : Int) < (u.length : Int)) = false := decide_eq_false (by omega)
    rw [List.take_of_length_le (by omega)] at i2
    have hu : u.contains 10 = false := by
      cases hh : u.contains 10 with
      | false => rfl
      | true => exact absurd (List.contains_iff_mem.1 hh) i2
    simp only [b_rgright_0, t_rgright_2, c0, go_sem, Nat.reduceDiv, Nat.reduceMod, ↓reduceIte, Nat.reduceEqDiff, Nat.reduceBEq, Nat.reduceSub, Nat.reduceLT, Nat.reduceAdd, Nat.reduceLeDiff, reduceCtorEq, Int.reduceEq, Int.reduceNe, Int.reduceLT, Int.reduceLE, Int.reduceToNat]
    clear hR R
    refine loop2P [] [1, 4] [0] (fun i : Nat => ⟨[(1, .ref 0 0 0), (4, .int .i64 (i : Int))], [.cells 26 [(20, .blob m), (1, .str u), (1, .int .i64 t), (1, .int .i64 z), (1, .sl ke (es.map exV)), (1, .sl kf (fs.map AV.str)), (1, .str d)]]⟩)
      (fun i => i ≤ es.length ∧ ((es.take i).all fun x => keyedB x.1) = true ∧ ascB ((es.map Prod.fst).take i) = true) (fun i => es.length - i) 0 (by rfl) ⟨Nat.zero_le _, by simp, by simp [ascB]⟩ ⟨rfl, by rfl⟩ (fun i hi R hR => ?_)
    obtain ⟨i1, i2, i3⟩ := hi
    by_cases hil : i < es.length
    · have c1 : decide ((i : Int) < (es.length : Int)) = true := decide_eq_true (by omega)
      have hk : ke = 2 := q3.resolve_right (by intro h; have := congrArg List.length h; simp at this; rw [this] at hil; simp at hil)
      have hget := getD_map exV es ([], []) (AV.agg [(1, AV.str []), (1, AV.str [])]) hil
      have hga : es.getD i ([], []) = es[i] := by simp [List.getD_eq_getElem?_getD, List.getElem?_eq_getElem hil]
      have hlen := q7 es[i] (List.getElem_mem _)
      have hst := asc_step (es.map Prod.fst) (i := i) (by rw [List.length_map]; exact hil)
      rw [List.getElem_map] at hst
      have htk : (es.take (i + 1)).all (fun x => keyedB x.1) = keyedB es[i].1 := by
        rw [List.take_add_one, List.getElem?_eq_getElem hil, Option.toList_some, List.all_append, i2]; simp
      have hmem : es[i] ∈ es := List.getElem_mem _
      have hall : keyedB es[i].1 = false → (es.all fun x => keyedB x.1) = false := fun h => List.all_eq_false.2 ⟨es[i], hmem, by rw [h]; simp⟩
      have hasc : ascB ((es.map Prod.fst).take (i + 1)) = false → ascB (es.map Prod.fst) = false := fun h => by
        cases hh : ascB (es.map Prod.fst) with
        | false => rfl
        | true => rw [ascB_take _ (i + 1) hh] at h; cases h
      rw [i3, Bool.true_and] at hst
      subst hk
      generalize hx : es[i] = x at *
      cases h1 : keyedB x.1 with
      | false =>
        rw [bad1 (hall h1)]
        simp only [b_rgright_1, r_rgright, c1, hget, hga, exV, h1, phiRR_1, rgkeyedS, Int.toNat_natCast, List.length_map, go_sem, Nat.reduceDiv, Nat.reduceMod, ↓reduceIte, Nat.reduceEqDiff, Nat.reduceBEq, Nat.reduceSub, Nat.reduceLT, Nat.reduceAdd, Nat.reduceLeDiff, reduceCtorEq, Int.reduceEq, Int.reduceNe, Int.reduceLT, Int.reduceLE, Int.reduceToNat]
        repeat' apply And.intro
        all_goals first | omega | rfl
      | true =>
        rw [h1] at htk
        by_cases h0 : i = 0
        · have d0 : decide (0 < (i : Int)) = false := decide_eq_false (by omega)
          rw [decide_eq_true h0, Bool.true_or] at hst
          simp only [b_rgright_1, r_rgright, c1, d0, hget, hga, exV, h1, phiRR_1, rgkeyedS, Int.toNat_natCast, List.length_map, go_sem, Nat.reduceDiv, Nat.reduceMod, ↓reduceIte, Nat.reduceEqDiff, Nat.reduceBEq, Nat.reduceSub, Nat.reduceLT, Nat.reduceAdd, Nat.reduceLeDiff, reduceCtorEq, Int.reduceEq, Int.reduceNe, Int.reduceLT, Int.reduceLE, Int.reduceToNat]
          repeat' apply And.intro
          all_goals first | omega | exact hR _ (i + 1) ⟨hil, htk, hst⟩ (by omega) rfl
        · have d0 : decide (0 < (i : Int)) = true := decide_eq_true (by omega)
          rw [decide_eq_false h0, Bool.false_or] at hst
          have e1 : ((i : Int) - 1).toNat = i - 1 := by omega
          have hget1 := getD_map exV es ([], []) (AV.agg [(1, AV.str []), (1, AV.str [])]) (show i - 1 < es.length by omega)
          have hkg : (es.map Prod.fst).getD (i - 1) [] = (es.getD (i - 1) ([], [])).1 := by
            simp [List.getD_eq_getElem?_getD, List.getElem?_eq_getElem (show i - 1 < es.length by omega)]
          rw [hkg] at hst
          have htri := less_tri (es.getD (i - 1) ([], [])).1 x.1
          cases h2 : (Op.bytesLess x.1 (es.getD (i - 1) ([], [])).1 || decide (x.1 = (es.getD (i - 1) ([], [])).1)) with
          | false =>
            rw [h2] at htri
            rw [htri] at hst
            simp only [b_rgright_1, r_rgright, c1, d0, e1, hget, hget1, hga, exV, h1, h2, phiRR_1, rgkeyedS, Int.toNat_natCast, List.length_map, go_sem, Nat.reduceDiv, Nat.reduceMod, ↓reduceIte, Nat.reduceEqDiff, Nat.reduceBEq, Nat.reduceSub, Nat.reduceLT, Nat.reduceAdd, Nat.reduceLeDiff, reduceCtorEq, Int.reduceEq, Int.reduceNe, Int.reduceLT, Int.reduceLE, Int.reduceToNat]
            repeat' apply And.intro
            all_goals first | omega | exact hR _ (i + 1) ⟨hil, htk, hst⟩ (by omega) rfl
          | true =>
            rw [h2] at htri
            rw [htri] at hst
            rw [bad2 (hasc hst)]
            simp only [b_rgright_1, r_rgright, c1, d0, e1, hget, hget1, hga, exV, h1, h2, phiRR_1, rgkeyedS, Int.toNat_natCast, List.length_map, go_sem, Nat.reduceDiv, Nat.reduceMod, ↓reduceIte, Nat.reduceEqDiff, Nat.reduceBEq, Nat.reduceSub, Nat.reduceLT, Nat.reduceAdd, Nat.reduceLeDiff, reduceCtorEq, Int.reduceEq, Int.reduceNe, Int.reduceLT, Int.reduceLE, Int.reduceToNat]
            repeat' apply And.intro
            all_goals first | omega | rfl
    have c2 : decide ((i : Int) < (es.length : Int)) = false := decide_eq_false (by omega)
    rw [List.take_of_length_le (by omega)] at i2
    rw [List.take_of_length_le (by rw [List.length_map]; omega)] at i3
    simp only [b_rgright_1, t_rgright_1, c2, List.length_map, go_sem, Nat.reduceDiv, Nat.reduceMod, ↓reduceIte, Nat.reduceEqDiff, Nat.reduceBEq, Nat.reduceSub, Nat.reduceLT, Nat.reduceAdd, Nat.reduceLeDiff, reduceCtorEq, Int.reduceEq, Int.reduceNe, Int.reduceLT, Int.reduceLE, Int.reduceToNat]
    clear hR R
    refine loop2P [] [1, 5] [0] (fun j : Nat => ⟨[(1, .ref 0 0 0), (5, .int .i64 (j : Int))], [.cells 26 [(20, .blob m), (1, .str u), (1, .int .i64 t), (1, .int .i64 z), (1, .sl ke (es.map exV)), (1, .sl kf (fs.map AV.str)), (1, .str d)]]⟩)
      (fun j => j ≤ fs.length ∧ (fs.take j).all rightP = true ∧ ascB (fs.take j) = true) (fun j => fs.length - j) 0 (by rfl) ⟨Nat.zero_le _, by simp, by simp [ascB]⟩ ⟨rfl, by rfl⟩ (fun j hj R2 hR2 => ?_)
    obtain ⟨j1, j2, j3⟩ := hj
    by_cases hjl : j < fs.length
    · have d1 : decide ((j : Int) < (fs.length : Int)) = true := decide_eq_true (by omega)
      have hk : kf = 1 := q4.resolve_right (by intro h; have := congrArg List.length h; simp at this; rw [this] at hjl; simp at hjl)
      have hget := getD_map AV.str fs [] (AV.str []) hjl
      have hga : fs.getD j [] = fs[j] := by simp [List.getD_eq_getElem?_getD, List.getElem?_eq_getElem hjl]
      have hlen := q8 fs[j] (List.getElem_mem _)
      have hst := asc_step fs hjl
      have htk : (fs.take (j + 1)).all rightP = rightP fs[j] := by
        rw [List.take_add_one, List.getElem?_eq_getElem hjl, Option.toList_some, List.all_append, j2]; simp
      have hmem : fs[j] ∈ fs := List.getElem_mem _
      have hall : rightP fs[j] = false → fs.all rightP = false := fun h => List.all_eq_false.2 ⟨fs[j], hmem, by rw [h]; simp⟩
      have hasc : ascB (fs.take (j + 1)) = false → ascB fs = false := fun h => by
        cases hh : ascB fs with
        | false => rfl
        | true => rw [ascB_take _ (j + 1) hh] at h; cases h
      rw [j3, Bool.true_and] at hst
      subst hk
      generalize hx : fs[j] = x at *
      cases h1 : rightP x with
      | false =>
        rw [bad3 (hall h1)]
        simp only [b_rgright_2, r_rgright, d1, hget, hga, h1, phiRR_2, rrightS, Int.toNat_natCast, List.length_map, go_sem, Nat.reduceDiv, Nat.reduceMod, ↓reduceIte, Nat.reduceEqDiff, Nat.reduceBEq, Nat.reduceSub, Nat.reduceLT, Nat.reduceAdd, Nat.reduceLeDiff, reduceCtorEq, Int.reduceEq, Int.reduceNe, Int.reduceLT, Int.reduceLE, Int.reduceToNat]
        repeat' apply And.intro
        all_goals first | omega | rfl
      | true =>
        rw [h1] at htk
        by_cases h0 : j = 0
        · have d0 : decide (0 < (j : Int)) = false := decide_eq_false (by omega)
          rw [decide_eq_true h0, Bool.true_or] at hst
          simp only [b_rgright_2, r_rgright, d1, d0, hget, hga, h1, phiRR_2, rrightS, Int.toNat_natCast, List.length_map, go_sem, Nat.reduceDiv, Nat.reduceMod, ↓reduceIte, Nat.reduceEqDiff, Nat.reduceBEq, Nat.reduceSub, Nat.reduceLT, Nat.reduceAdd, Nat.reduceLeDiff, reduceCtorEq, Int.reduceEq, Int.reduceNe, Int.reduceLT, Int.reduceLE, Int.reduceToNat]
          repeat' apply And.intro
          all_goals first | omega | exact hR2 _ (j + 1) ⟨hjl, htk, hst⟩ (by omega) rfl
        · have d0 : decide (0 < (j : Int)) = true := decide_eq_true (by omega)
          rw [decide_eq_false h0, Bool.false_or] at hst
          have e1 : ((j : Int) - 1).toNat = j - 1 := by omega
          have hget1 := getD_map AV.str fs [] (AV.str []) (show j - 1 < fs.length by omega)
          have htri := less_tri (fs.getD (j - 1) []) x
          cases h2 : (Op.bytesLess x (fs.getD (j - 1) []) || decide (x = fs.getD (j - 1) [])) with
          | false =>
            rw [h2] at htri
            rw [htri] at hst
            simp only [b_rgright_2, r_rgright, d1, d0, e1, hget, hget1, hga, h1, h2, phiRR_2, rrightS, Int.toNat_natCast, List.length_map, go_sem, Nat.reduceDiv, Nat.reduceMod, ↓reduceIte, Nat.reduceEqDiff, Nat.reduceBEq, Nat.reduceSub, Nat.reduceLT, Nat.reduceAdd, Nat.reduceLeDiff, reduceCtorEq, Int.reduceEq, Int.reduceNe, Int.reduceLT, Int.reduceLE, Int.reduceToNat]
            repeat' apply And.intro
            all_goals first | omega | exact hR2 _ (j + 1) ⟨hjl, htk, hst⟩ (by omega) rfl
          | true =>
            rw [h2] at htri
            rw [htri] at hst
            rw [bad4 (hasc hst)]
            simp only [b_rgright_2, r_rgright, d1, d0, e1, hget, hget1, hga, h1, h2, phiRR_2, rrightS, Int.toNat_natCast, List.length_map, go_sem, Nat.reduceDiv, Nat.reduceMod, ↓reduceIte, Nat.reduceEqDiff, Nat.reduceBEq, Nat.reduceSub, Nat.reduceLT, Nat.reduceAdd, Nat.reduceLeDiff, reduceCtorEq, Int.reduceEq, Int.reduceNe, Int.reduceLT, Int.reduceLE, Int.reduceToNat]
            repeat' apply And.intro
            all_goals first | omega | rfl
    · have d1 : decide ((j : Int) < (fs.length : Int)) = false := decide_eq_false (by omega)
      rw [List.take_of_length_le (by omega)] at j2 j3
      have hrr : rightH ⟨m1, u, t, z, es, fs, d⟩ = true := by
        unfold rightH
        simp only [i2, i3, j2, j3, hu, decide_eq_true k1, decide_eq_true (by omega : 0 ≤ t), decide_eq_true (by omega : t < 4611686018427387904), decide_eq_true (by omega : -86399 ≤ z), decide_eq_true (by omega : z ≤ 86399)]
        rfl
      rw [hrr]
      simp only [b_rgright_2, t_rgright_0, r_rgright, d1, List.length_map, go_sem, Nat.reduceDiv, Nat.reduceMod, ↓reduceIte, Nat.reduceEqDiff, Nat.reduceBEq, Nat.reduceSub, Nat.reduceLT, Nat.reduceAdd, Nat.reduceLeDiff, reduceCtorEq, Int.reduceEq, Int.reduceNe, Int.reduceLT, Int.reduceLE, Int.reduceToNat]
  · cases hs
end Go.Proofs.YtfabdnpeohpgnaaGreatDoor
namespace Go.Proofs.YtfabdnpeohpgnaaGreatDoor
set_option linter.all false
open Go.RowKit
def c_ndec : ACode := (.seq (.reg none [⟨(some 2), (.mv (.c (.str []))), none⟩]) (.seq (.reg none [⟨(some 3), (.mv (.t 0)), none⟩, ⟨(some 4), (.call 36 [(.t 3)]), none⟩, ⟨(some 2), (.mv (.t 4)), none⟩]) .ret))
def r_ndec : List ARes := [(.t 2)]
theorem s_ndec : slimF Tryz.prog Tryz.f15 = some (c_ndec, r_ndec) := by kernel_rfl
theorem ndec_ok : FnOk Tryz.prog 15 itoaS := by
  refine fn_slim2 Tryz.func15 s_ndec (Φ := phiL [(36, [], itoaS)]) (phi_cons itoa_ok (by kernel_rfl) phi_nil) ?_
  intro xs hp r hs hp'
  unfold itoaS at hs
  split at hs
  · injection hs with hs; subst hs
    rename_i k
    refine ⟨len_le (by kernel_rfl), ?_⟩
    simp only [c_ndec, r_ndec, itoaS, go_sem, Nat.reduceDiv, Nat.reduceMod, ↓reduceIte, Nat.reduceEqDiff, Nat.reduceBEq, Nat.reduceSub, Nat.reduceLT, Nat.reduceAdd, Nat.reduceLeDiff, reduceCtorEq, Int.reduceEq, Int.reduceNe, Int.reduceLT, Int.reduceLE, Int.reduceToNat]
    first | exact hp' | exact ⟨hp', rfl⟩ | trivial
  · cases hs
end Go.Proofs.YtfabdnpeohpgnaaGreatDoor
namespace Go.Proofs.YtfabdnpeohpgnaaGreatDoor
set_option linter.all false
open Go.RowKit
open Go.Lib (index hasPrefix trimPrefix cut indexAny itoa)
theorem exsT_snoc (l : List ExL) (x : ExL) : exsT (l ++ [x]) = exsT l ++ ((if l = [] then [32] else [0]) ++ exT x) := by
  cases l with
  | nil => simp [exsT, joinB]
  | cons y l =>
    rw [if_neg (by simp), List.cons_append, exsT, exsT, List.map_cons, List.map_append, List.map_cons, List.map_nil, joinB, List.map_cons, joinB]
    simp
theorem file_shift : ∀ fs : List (List UInt8), 10 :: fs.flatMap fileT = fs.flatMap ([10] ++ ·) ++ [10]
  | [] => rfl
  | f :: fs => by
    have ih := file_shift fs
    rw [List.flatMap_cons, List.flatMap_cons, fileT, List.append_assoc, show ([10] : List UInt8) ++ fs.flatMap fileT = 10 :: fs.flatMap fileT from rfl, ih]
    simp
theorem join_body (h u da d : List UInt8) (fs : List (List UInt8)) : joinW [10] (h :: u :: da :: (fs ++ [[], d])) = h ++ 10 :: (u ++ 10 :: (da ++ 10 :: (fs.flatMap fileT ++ 10 :: d))) := by
  have := file_shift fs
  rw [joinW, List.flatMap_cons, List.flatMap_cons, List.flatMap_append]
  have e : da ++ 10 :: (fs.flatMap fileT ++ 10 :: d) = da ++ ((10 :: fs.flatMap fileT) ++ 10 :: d) := by simp
  rw [e, this]
  simp
theorem files_len : ∀ fs : List (List UInt8), (fs.flatMap fileT).length = sumL fs + fs.length
  | [] => rfl
  | f :: fs => by
    have ih := files_len fs
    simp only [List.flatMap_cons, List.length_append, fileT, sumL, List.map_cons, List.sum_cons, List.length_cons, List.length_nil] at ih ⊢
    omega
theorem body_len (c : ChgL) : (bodyH c).length = (hexL c.man).length + c.user.length + (dateT c).length + sumL c.files + c.files.length + c.desc.length + 4 := by
  have := files_len c.files
  simp only [bodyH, List.length_append, List.length_cons]; omega
def sizeH (c : ChgL) : Prop := c.man.length = 20 ∧ c.user.length ≤ 1000000 ∧ c.extras.length ≤ 100000 ∧ c.files.length ≤ 100000 ∧ (∀ x ∈ c.extras, x.1.length ≤ 1000000 ∧ x.2.length ≤ 1000000) ∧ (∀ f ∈ c.files, f.length ≤ 1000000) ∧
  (exsT c.extras).length ≤ 100000000 ∧ sumL c.files ≤ 100000000 ∧ c.desc.length ≤ 100000000 ∧ inI c.time ∧ inI c.zone
def gprnR (c : ChgL) (pr : Prop) : Option Ret := if rightH c = true then some ⟨.tup [.own 0 0, .int .i64 0], [.row 5 1 0 (Bs (bodyH c))], pr⟩ else some ⟨.tup [.con (.slice none 0 0), .int .i64 4], [], pr⟩
def argH (m : List Value) (ke : Nat) (es : List AV) (kf : Nat) (fs : List AV) : Prop := m = (unV m).map U ∧ es = (es.map unEx).map exV ∧ fs = (fs.map unS).map AV.str ∧ (ke = 2 ∨ es = []) ∧ kf = 1
def gprnS : Spec := fun xs hp => match xs, hp with
  | [.agg [(20, .blob m), (1, .str u), (1, .int .i64 t), (1, .int .i64 z), (1, .sl ke es), (1, .sl kf fs), (1, .str d)]], [] =>
    gprnR ⟨unV m, u, t, z, es.map unEx, fs.map unS, d⟩ (argH m ke es kf fs ∧ sizeH ⟨unV m, u, t, z, es.map unEx, fs.map unS, d⟩)
  | _, _ => none
theorem gprnR_pre {c : ChgL} {pr : Prop} {r : Ret} (h : gprnR c pr = some r) (hr : r.pre) : pr := by
  unfold gprnR at h
  split at h <;> (injection h with h; subst h; exact hr)
theorem exsT_take (es : List ExL) {i : Nat} (h : i < es.length) : exsT (es.take (i + 1)) = exsT (es.take i) ++ ((if i = 0 then [32] else [0]) ++ exT es[i]) := by
  rw [List.take_add_one, List.getElem?_eq_getElem h, Option.toList_some, exsT_snoc]
  have : (es.take i = []) ↔ i = 0 := by
    constructor
    · intro e; have := congrArg List.length e; rw [List.length_take, List.length_nil] at this; omega
    · rintro rfl; rfl
  by_cases hi : i = 0
  · rw [if_pos hi, if_pos (this.2 hi)]
  · rw [if_neg hi, if_neg (fun e => hi (this.1 e))]
theorem exsT_take_le (es : List ExL) : ∀ (k i : Nat), i + k = es.length → (exsT (es.take i)).length ≤ (exsT es).length
  | 0, i, h => by rw [List.take_of_length_le (by omega)]; exact Nat.le_refl _
  | k + 1, i, h => by
    have ih := exsT_take_le es k (i + 1) (by omega)
    rw [exsT_take es (by omega), List.length_append] at ih; omega
def phiGP : Phi := phiL [(14, [], grightS), (15, [], itoaS), (17, [], hexS), (16, [], gtoldS), (18, [], joinS)]
theorem phiGP_ok : PhiOk Tryz.prog phiGP := phi_cons gright_ok (by kernel_rfl) (phi_cons ndec_ok (by kernel_rfl) (phi_cons hex_ok (by kernel_rfl) (phi_cons gtold_ok (by kernel_rfl) (phi_cons join_ok (by kernel_rfl) phi_nil))))
theorem phiGP_1 : phiGP 14 = some ([], grightS) := rfl
theorem phiGP_2 : phiGP 15 = some ([], itoaS) := rfl
theorem phiGP_3 : phiGP 17 = some ([], hexS) := rfl
theorem phiGP_4 : phiGP 16 = some ([], gtoldS) := rfl
theorem phiGP_5 : phiGP 18 = some ([], joinS) := rfl
set_option maxHeartbeats 4000000 in
theorem gprn_ok : FnOk Tryz.prog 7 gprnS := by
  refine fn_slim2 Tryz.func7 s_gprn phiGP_ok ?_
  intro xs hp r hs hp'
  unfold gprnS at hs
  split at hs
  · rename_i m u t z ke es kf fs d
    obtain ⟨⟨q1, q2, q3, q4, q5⟩, z1, z2, z3, z4, z5, z6, z7, z8, z9, z10, z11⟩ := gprnR_pre hs hp'
    generalize unV m = m at *
    subst q1
    generalize es.map unEx = es at *
    subst q2
    generalize fs.map unS = fs at *
    subst q3 q5
    simp only at z1 z2 z3 z4 z5 z6 z7 z8 z9 z10 z11
    refine ⟨len_le (by kernel_rfl), ?_⟩
    have zk : ∀ x ∈ es, x.1.length ≤ 1000000000 := fun x hx => by have := (z5 x hx).1; omega
    have zf : ∀ f ∈ fs, f.length ≤ 1000000000 := fun f hf => by have := z6 f hf; omega
    cases hr : rightH ⟨m, u, t, z, es, fs, d⟩ with
    | false =>
      unfold gprnR at hs
      rw [if_neg (by rw [hr]; simp)] at hs
      injection hs with hs; subst hs
      simp only [c_gprn, r_gprn, phiGP_1, grightS, unV_U, unEx_map, unS_map, hr, List.length_map, go_sem, Nat.reduceDiv, Nat.reduceMod, ↓reduceIte, Nat.reduceEqDiff, Nat.reduceBEq, Nat.reduceSub, Nat.reduceLT, Nat.reduceAdd, Nat.reduceLeDiff, reduceCtorEq, Int.reduceEq, Int.reduceNe, Int.reduceLT, Int.reduceLE, Int.reduceToNat]
      exact ⟨q4, Or.inl trivial, by omega, by omega, zk, zf, z2⟩
    | true =>
      unfold gprnR at hs
      rw [if_pos hr] at hs
      injection hs with hs; subst hs
      have l1 := Lib.itoa_length_le t z10.1 z10.2
      have l2 := Lib.itoa_length_le z z11.1 z11.2
      simp only [c_gprn, phiGP_1, phiGP_2, grightS, itoaS, unV_U, unEx_map, unS_map, hr, List.length_map, go_sem, Nat.reduceDiv, Nat.reduceMod, ↓reduceIte, Nat.reduceEqDiff, Nat.reduceBEq, Nat.reduceSub, Nat.reduceLT, Nat.reduceAdd, Nat.reduceLeDiff, reduceCtorEq, Int.reduceEq, Int.reduceNe, Int.reduceLT, Int.reduceLE, Int.reduceToNat]
      refine ⟨⟨q4, Or.inl trivial, by omega, by omega, zk, zf, z2⟩, z10, by (first | omega | (simp only [lenOk, bytesOk, inI, IntKind.bits, List.length_append, Bs_len, List.length_cons, List.length_nil, List.length_map, List.length_take, List.length_drop, List.length_replicate]; omega)), z11, by (first | omega | (simp only [lenOk, bytesOk, inI, IntKind.bits, List.length_append, Bs_len, List.length_cons, List.length_nil, List.length_map, List.length_take, List.length_drop, List.length_replicate]; omega)), ?_⟩
      refine loop2P [] [1, 4, 21, 22, 23] [0] (fun i : Nat => ⟨[(1, .ref 0 0 0), (4, .str (itoa t ++ 32 :: (itoa z ++ exsT (es.take i)))), (21, .sl ke (es.map exV)), (22, .int .i64 (es.length : Int)), (23, .int .i64 (i : Int))], [.cells 30 [(20, .blob (m.map U)), (1, .str u), (1, .int .i64 t), (1, .int .i64 z), (1, .sl ke (es.map exV)), (1, .sl 1 (fs.map AV.str)), (1, .str d)]]⟩)
        (fun i => i ≤ es.length) (fun i => es.length - i) 0 ?_ (Nat.zero_le _) ⟨rfl, by rfl⟩ (fun i hi R hR => ?_)
      · have e0 : itoa t ++ [32] ++ itoa z = itoa t ++ 32 :: itoa z := by simp
        simp only [List.take_zero, exsT, List.append_nil, e0]
        rfl
      by_cases hil : i < es.length
      · have c1 : decide ((i : Int) < (es.length : Int)) = true := decide_eq_true (by omega)
        have hk : ke = 2 := q4.resolve_right (by intro h; have := congrArg List.length h; simp at this; rw [this] at hil; simp at hil)
        have hget := getD_map exV es ([], []) (AV.agg [(1, AV.str []), (1, AV.str [])]) hil
        have hga : es.getD i ([], []) = es[i] := by simp [List.getD_eq_getElem?_getD, List.getElem?_eq_getElem hil]
        obtain ⟨x1, x2⟩ := z5 es[i] (List.getElem_mem _)
        have htk := exsT_take es hil
        have hle := exsT_take_le es (es.length - (i + 1)) (i + 1) (by omega)
        subst hk
        generalize es[i] = x at *
        have htl := tol_len x.2
        rw [htk, List.length_append, List.length_append] at hle
        unfold exT at htk hle
        rw [List.length_append, List.length_cons] at hle
        by_cases h0 : i = 0
        · have d0 : decide ((i : Int) = 0) = true := decide_eq_true (by omega)
          rw [if_pos h0] at htk hle
          simp only [b_gprn_0, c1, d0, hget, hga, exV, phiGP_4, gtoldS, Int.toNat_natCast, List.length_map, go_sem, Nat.reduceDiv, Nat.reduceMod, ↓reduceIte, Nat.reduceEqDiff, Nat.reduceBEq, Nat.reduceSub, Nat.reduceLT, Nat.reduceAdd, Nat.reduceLeDiff, reduceCtorEq, Int.reduceEq, Int.reduceNe, Int.reduceLT, Int.reduceLE, Int.reduceToNat]
          refine ⟨⟨by omega, by omega⟩, by (first | omega | (simp only [lenOk, bytesOk, inI, IntKind.bits, List.length_append, Bs_len, List.length_cons, List.length_nil, List.length_map, List.length_take, List.length_drop, List.length_replicate]; omega)), by (first | omega | (simp only [lenOk, bytesOk, inI, IntKind.bits, List.length_append, Bs_len, List.length_cons, List.length_nil, List.length_map, List.length_take, List.length_drop, List.length_replicate]; omega)), by omega, by (first | omega | (simp only [lenOk, bytesOk, inI, IntKind.bits, List.length_append, Bs_len, List.length_cons, List.length_nil, List.length_map, List.length_take, List.length_drop, List.length_replicate]; omega)), by (first | omega | (simp only [lenOk, bytesOk, inI, IntKind.bits, List.length_append, Bs_len, List.length_cons, List.length_nil, List.length_map, List.length_take, List.length_drop, List.length_replicate]; omega)), ⟨by omega, by omega⟩, ?_⟩
          have e : itoa t ++ 32 :: (itoa z ++ exsT (es.take (i + 1))) = itoa t ++ 32 :: (itoa z ++ exsT (List.take i es)) ++ 32 :: (x.1 ++ [58] ++ tolL x.2) := by rw [htk]; simp
          rw [← e]
          exact hR _ (i + 1) hil (by omega) rfl
        · have d0 : decide ((i : Int) = 0) = false := decide_eq_false (by omega)
          rw [if_neg h0] at htk hle
          simp only [b_gprn_0, c1, d0, hget, hga, exV, phiGP_4, gtoldS, Int.toNat_natCast, List.length_map, go_sem, Nat.reduceDiv, Nat.reduceMod, ↓reduceIte, Nat.reduceEqDiff, Nat.reduceBEq, Nat.reduceSub, Nat.reduceLT, Nat.reduceAdd, Nat.reduceLeDiff, reduceCtorEq, Int.reduceEq, Int.reduceNe, Int.reduceLT, Int.reduceLE, Int.reduceToNat]
          refine ⟨⟨by omega, by omega⟩, by (first | omega | (simp only [lenOk, bytesOk, inI, IntKind.bits, List.length_append, Bs_len, List.length_cons, List.length_nil, List.length_map, List.length_take, List.length_drop, List.length_replicate]; omega)), by (first | omega | (simp only [lenOk, bytesOk, inI, IntKind.bits, List.length_append, Bs_len, List.length_cons, List.length_nil, List.length_map, List.length_take, List.length_drop, List.length_replicate]; omega)), by omega, by (first | omega | (simp only [lenOk, bytesOk, inI, IntKind.bits, List.length_append, Bs_len, List.length_cons, List.length_nil, List.length_map, List.length_take, List.length_drop, List.length_replicate]; omega)), by (first | omega | (simp only [lenOk, bytesOk, inI, IntKind.bits, List.length_append, Bs_len, List.length_cons, List.length_nil, List.length_map, List.length_take, List.length_drop, List.length_replicate]; omega)), ⟨by omega, by omega⟩, ?_⟩
          have e : itoa t ++ 32 :: (itoa z ++ exsT (es.take (i + 1))) = itoa t ++ 32 :: (itoa z ++ exsT (List.take i es)) ++ 0 :: (x.1 ++ [58] ++ tolL x.2) := by rw [htk]; simp
          rw [← e]
          exact hR _ (i + 1) hil (by omega) rfl
      · have c1 : decide ((i : Int) < (es.length : Int)) = false := decide_eq_false (by omega)
        rw [List.take_of_length_le (by omega)]
        simp only [b_gprn_0, t_gprn_0, r_gprn, c1, phiGP_3, phiGP_5, hexS, joinS, unV_U, List.length_map, if_pos, go_sem, Nat.reduceDiv, Nat.reduceMod, ↓reduceIte, Nat.reduceEqDiff, Nat.reduceBEq, Nat.reduceSub, Nat.reduceLT, Nat.reduceAdd, Nat.reduceLeDiff, reduceCtorEq, Int.reduceEq, Int.reduceNe, Int.reduceLT, Int.reduceLE, Int.reduceToNat]
        have eR : fs.map AV.str ++ [AV.str [], AV.str d] = (fs ++ [[], d]).map AV.str := by simp
        have eJ : joinW [10] (unS (AV.str (hexL m)) :: unS (AV.str u) :: unS (AV.str (itoa t ++ 32 :: (itoa z ++ exsT es))) :: (fs ++ [[], d])) = bodyH ⟨m, u, t, z, es, fs, d⟩ := join_body _ _ _ _ _
        have hb := body_len ⟨m, u, t, z, es, fs, d⟩
        have hh := hexL_length m
        have hd : (dateT ⟨m, u, t, z, es, fs, d⟩).length = (itoa t).length + (1 + (itoa z).length + (exsT es).length) := by unfold dateT; simp only [List.length_append, List.length_cons]; omega
        simp only at hb
        rw [eR, unS_map, List.length_map, List.length_append, eJ]
        have hs : sumL (unS (AV.str (hexL m)) :: unS (AV.str u) :: unS (AV.str (itoa t ++ 32 :: (itoa z ++ exsT es))) :: (fs ++ [[], d])) = (hexL m).length + (u.length + ((dateT ⟨m, u, t, z, es, fs, d⟩).length + (sumL fs + d.length))) := by
          simp only [sumL, unS, dateT, List.map_cons, List.sum_cons, List.map_append, List.sum_append, List.map_nil, List.sum_nil, List.length_nil]; omega
        refine ⟨z1, ⟨by (first | omega | (simp only [lenOk, bytesOk, inI, IntKind.bits, List.length_append, Bs_len, List.length_cons, List.length_nil, List.length_map, List.length_take, List.length_drop, List.length_replicate]; omega)), by (first | omega | (simp only [lenOk, bytesOk, inI, IntKind.bits, List.length_append, Bs_len, List.length_cons, List.length_nil, List.length_map, List.length_take, List.length_drop, List.length_replicate]; omega))⟩, ⟨by (first | omega | (simp only [lenOk, bytesOk, inI, IntKind.bits, List.length_append, Bs_len, List.length_cons, List.length_nil, List.length_map, List.length_take, List.length_drop, List.length_replicate]; omega)), by (first | omega | (simp only [lenOk, bytesOk, inI, IntKind.bits, List.length_append, Bs_len, List.length_cons, List.length_nil, List.length_map, List.length_take, List.length_drop, List.length_replicate]; omega))⟩, ⟨rfl, Or.inl trivial, by simp only [List.length_cons, List.length_nil]; omega, by rw [hs]; omega⟩, by (first | omega | (simp only [lenOk, bytesOk, inI, IntKind.bits, List.length_append, Bs_len, List.length_cons, List.length_nil, List.length_map, List.length_take, List.length_drop, List.length_replicate]; omega)), rfl⟩
  · cases hs
end Go.Proofs.YtfabdnpeohpgnaaGreatDoor
