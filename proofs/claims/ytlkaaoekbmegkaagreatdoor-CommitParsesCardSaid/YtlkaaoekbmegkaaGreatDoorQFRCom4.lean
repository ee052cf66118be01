import Derived.Test.YtlkaaoekbmegkaaGreatDoorQFRCom1
namespace Go.Proofs.YtlkaaoekbmegkaaGreatDoor
set_option linter.all false
open Go.RowKit
def sameW (a b : WhoL) : Bool := decide (a.name = b.name) && (decide (a.mail = b.mail) && (decide (a.time = b.time) && (decide (a.zone = b.zone) && true)))
theorem sameW_iff {a b : WhoL} : sameW a b = true ↔ a = b := by
  cases a; cases b; simp [sameW]
def sameC (c d : ComL) : Bool := decide (c.tree = d.tree) && sameW c.author d.author && sameW c.committer d.committer && decide (c.message = d.message) && decide (c.parents = d.parents) && decide (c.extras = d.extras)
theorem sameC_iff {c d : ComL} : sameC c d = true ↔ c = d := by
  cases c; cases d; simp [sameC, sameW_iff]; constructor
  · rintro ⟨⟨⟨⟨⟨rfl, rfl⟩, rfl⟩, rfl⟩, rfl⟩, rfl⟩; simp
  · rintro ⟨rfl, rfl, rfl, rfl, rfl, rfl⟩; simp
def rsameS : Spec := fun xs hp => match xs, hp with
  | [.agg [(20, .blob t), (1, .sl kq ps), (1, .str an), (1, .str am), (1, .int .i64 at'), (1, .str az), (1, .str cn), (1, .str cm), (1, .int .i64 ct), (1, .str cz), (1, .sl ke es), (1, .str m)],
     .agg [(20, .blob t2), (1, .sl kq2 ps2), (1, .str an2), (1, .str am2), (1, .int .i64 at2), (1, .str az2), (1, .str cn2), (1, .str cm2), (1, .int .i64 ct2), (1, .str cz2), (1, .sl ke2 es2), (1, .str m2)]], [] =>
    some ⟨.bool (sameC ⟨unV t, ps.map unId, ⟨an, am, at', az⟩, ⟨cn, cm, ct, cz⟩, es.map unEx, m⟩ ⟨unV t2, ps2.map unId, ⟨an2, am2, at2, az2⟩, ⟨cn2, cm2, ct2, cz2⟩, es2.map unEx, m2⟩), [],
      (t = (unV t).map U ∧ ps = (ps.map unId).map idAV ∧ es = (es.map unEx).map exV ∧ (kq = 20 ∨ ps = []) ∧ (ke = 2 ∨ es = []) ∧ (unV t).length = 20 ∧ (∀ p ∈ ps.map unId, p.length = 20) ∧ ps.length ≤ 1000000 ∧ es.length ≤ 1000000) ∧
      (t2 = (unV t2).map U ∧ ps2 = (ps2.map unId).map idAV ∧ es2 = (es2.map unEx).map exV ∧ (kq2 = 20 ∨ ps2 = []) ∧ (ke2 = 2 ∨ es2 = []) ∧ (unV t2).length = 20 ∧ (∀ p ∈ ps2.map unId, p.length = 20) ∧ ps2.length ≤ 1000000 ∧ es2.length ≤ 1000000)⟩
  | _, _ => none
theorem take_eq_succ {α : Type} {l m : List α} {i : Nat} (h : l.take i = m.take i) (hi : i < l.length) (hj : i < m.length) (e : l[i] = m[i]) : l.take (i + 1) = m.take (i + 1) := by
  rw [List.take_add_one, List.take_add_one, h, List.getElem?_eq_getElem hi, List.getElem?_eq_getElem hj, e]
set_option maxHeartbeats 4000000 in
theorem rsame_ok : FnOk Tryz.prog 13 rsameS := by
  refine fn_slim2 Tryz.func13 s_rsame (Φ := phiL []) phi_nil ?_
  intro xs hp r hs hp'
  unfold rsameS at hs
  split at hs
  · injection hs with hs; subst hs
    rename_i t kq ps an am at' az cn cm ct cz ke es m t2 kq2 ps2 an2 am2 at2 az2 cn2 cm2 ct2 cz2 ke2 es2 m2
    obtain ⟨⟨q1, q2, q3, q4, q5, q6, q7, q8, q9⟩, w1, w2, w3, w4, w5, w6, w7, w8, w9⟩ := hp'
    generalize unV t = t at *
    subst q1
    generalize ps.map unId = ps at *
    subst q2
    generalize es.map unEx = es at *
    subst q3
    generalize unV t2 = t2 at *
    subst w1
    generalize ps2.map unId = ps2 at *
    subst w2
    generalize es2.map unEx = es2 at *
    subst w3
    rw [List.length_map] at q8 q9 w8 w9
    refine ⟨len_le (by kernel_rfl), ?_⟩
    have hsa : (decide (an = an2) && (decide (am = am2) && (decide (at' = at2) && decide (az = az2)))) = sameW ⟨an, am, at', az⟩ ⟨an2, am2, at2, az2⟩ := by unfold sameW; simp only [Bool.and_true]
    have hsc : (decide (cn = cn2) && (decide (cm = cm2) && (decide (ct = ct2) && decide (cz = cz2)))) = sameW ⟨cn, cm, ct, cz⟩ ⟨cn2, cm2, ct2, cz2⟩ := by unfold sameW; simp only [Bool.and_true]
    unfold sameC
    simp only
    cases h1 : decide (t = t2) with
    | false =>
      simp only [c_rsame, r_rsame, unV_U, h1, Bool.false_and, go_sem, Nat.reduceDiv, Nat.reduceMod, ↓reduceIte, Nat.reduceEqDiff, Nat.reduceBEq, Nat.reduceSub, Nat.reduceLT, Nat.reduceAdd, Nat.reduceLeDiff, reduceCtorEq, Int.reduceEq, Int.reduceNe, Int.reduceLT, Int.reduceLE, Int.reduceToNat]
      exact ⟨q6, w6⟩
    | true =>
    cases h2 : sameW ⟨an, am, at', az⟩ ⟨an2, am2, at2, az2⟩ with
    | false =>
      simp only [c_rsame, r_rsame, unV_U, h1, hsa, h2, Bool.false_and, Bool.and_false, go_sem, Nat.reduceDiv, Nat.reduceMod, ↓reduceIte, Nat.reduceEqDiff, Nat.reduceBEq, Nat.reduceSub, Nat.reduceLT, Nat.reduceAdd, Nat.reduceLeDiff, reduceCtorEq, Int.reduceEq, Int.reduceNe, Int.reduceLT, Int.reduceLE, Int.reduceToNat]
      exact ⟨q6, w6⟩
    | true =>
    cases h3 : sameW ⟨cn, cm, ct, cz⟩ ⟨cn2, cm2, ct2, cz2⟩ with
    | false =>
      simp only [c_rsame, r_rsame, unV_U, h1, hsa, hsc, h2, h3, Bool.false_and, Bool.and_false, go_sem, Nat.reduceDiv, Nat.reduceMod, ↓reduceIte, Nat.reduceEqDiff, Nat.reduceBEq, Nat.reduceSub, Nat.reduceLT, Nat.reduceAdd, Nat.reduceLeDiff, reduceCtorEq, Int.reduceEq, Int.reduceNe, Int.reduceLT, Int.reduceLE, Int.reduceToNat]
      exact ⟨q6, w6⟩
    | true =>
    cases h4 : decide (m = m2) with
    | false =>
      simp only [c_rsame, r_rsame, unV_U, h1, hsa, hsc, h2, h3, h4, Bool.false_and, Bool.and_false, go_sem, Nat.reduceDiv, Nat.reduceMod, ↓reduceIte, Nat.reduceEqDiff, Nat.reduceBEq, Nat.reduceSub, Nat.reduceLT, Nat.reduceAdd, Nat.reduceLeDiff, reduceCtorEq, Int.reduceEq, Int.reduceNe, Int.reduceLT, Int.reduceLE, Int.reduceToNat]
      exact ⟨q6, w6⟩
    | true =>
    by_cases h5 : ps.length = ps2.length
    rotate_left
    · have d5 : decide ((ps.length : Int) = (ps2.length : Int)) = false := decide_eq_false (by omega)
      have e : decide (ps = ps2) = false := decide_eq_false (by rintro rfl; exact h5 rfl)
      simp only [c_rsame, r_rsame, unV_U, h1, hsa, hsc, h2, h3, h4, d5, e, Bool.false_and, Bool.and_false, go_sem, Nat.reduceDiv, Nat.reduceMod, ↓reduceIte, Nat.reduceEqDiff, Nat.reduceBEq, Nat.reduceSub, Nat.reduceLT, Nat.reduceAdd, Nat.reduceLeDiff, reduceCtorEq, Int.reduceEq, Int.reduceNe, Int.reduceLT, Int.reduceLE, Int.reduceToNat]
      exact ⟨q6, w6⟩
    have d5 : decide ((ps.length : Int) = (ps2.length : Int)) = true := decide_eq_true (by omega)
    by_cases h6 : es.length = es2.length
    rotate_left
    · have d6 : decide ((es.length : Int) = (es2.length : Int)) = false := decide_eq_false (by omega)
      have e : decide (es = es2) = false := decide_eq_false (by rintro rfl; exact h6 rfl)
      simp only [c_rsame, r_rsame, unV_U, h1, hsa, hsc, h2, h3, h4, d5, d6, e, Bool.false_and, Bool.and_false, go_sem, Nat.reduceDiv, Nat.reduceMod, ↓reduceIte, Nat.reduceEqDiff, Nat.reduceBEq, Nat.reduceSub, Nat.reduceLT, Nat.reduceAdd, Nat.reduceLeDiff, reduceCtorEq, Int.reduceEq, Int.reduceNe, Int.reduceLT, Int.reduceLE, Int.reduceToNat]
      exact ⟨q6, w6⟩
    have d6 : decide ((es.length : Int) = (es2.length : Int)) = true := decide_eq_true (by omega)
    simp only [c_rsame, unV_U, h1, hsa, hsc, h2, h3, h4, d5, d6, Bool.true_and, go_sem, Nat.reduceDiv, Nat.reduceMod, ↓reduceIte, Nat.reduceEqDiff, Nat.reduceBEq, Nat.reduceSub, Nat.reduceLT, Nat.reduceAdd, Nat.reduceLeDiff, reduceCtorEq, Int.reduceEq, Int.reduceNe, Int.reduceLT, Int.reduceLE, Int.reduceToNat]
    refine ⟨⟨q6, w6⟩, ?_⟩
    refine loop2P [] [2, 3, 5] [0, 1] (fun i : Nat => ⟨[(2, .ref 0 0 0), (3, .ref 1 0 0), (5, .int .i64 (i : Int))],
      [.cells 28 [(20, .blob (t.map U)), (1, .sl kq (ps.map idAV)), (1, .str an), (1, .str am), (1, .int .i64 at'), (1, .str az), (1, .str cn), (1, .str cm), (1, .int .i64 ct), (1, .str cz), (1, .sl ke (es.map exV)), (1, .str m)],
       .cells 28 [(20, .blob (t2.map U)), (1, .sl kq2 (ps2.map idAV)), (1, .str an2), (1, .str am2), (1, .int .i64 at2), (1, .str az2), (1, .str cn2), (1, .str cm2), (1, .int .i64 ct2), (1, .str cz2), (1, .sl ke2 (es2.map exV)), (1, .str m2)]]⟩)
      (fun i => i ≤ ps.length ∧ ps.take i = ps2.take i) (fun i => ps.length - i) 0 rfl ⟨Nat.zero_le _, by simp⟩ ⟨rfl, by rfl⟩ (fun i hi R hR => ?_)
    obtain ⟨i1, i2⟩ := hi
    by_cases hil : i < ps.length
    · have c1 : decide ((i : Int) < (ps.length : Int)) = true := decide_eq_true (by omega)
      have hk : kq = 20 := q4.resolve_right (by intro h; have := congrArg List.length h; simp at this; rw [this] at hil; simp at hil)
      have hk2 : kq2 = 20 := w4.resolve_right (by intro h; have := congrArg List.length h; simp at this; rw [this] at h5; simp at h5; rw [h5] at hil; simp at hil)
      subst hk hk2
      have hget := getD_map idAV ps [] (.blob (List.replicate 20 (.int .u8 0))) hil
      have hga : ps.getD i [] = ps[i] := by simp [List.getD_eq_getElem?_getD, List.getElem?_eq_getElem hil]
      have hget2 := getD_map idAV ps2 [] (.blob (List.replicate 20 (.int .u8 0))) (show i < ps2.length by omega)
      have hga2 : ps2.getD i [] = ps2[i] := by simp [List.getD_eq_getElem?_getD, List.getElem?_eq_getElem (show i < ps2.length by omega)]
      have hl1 := q7 ps[i] (List.getElem_mem _)
      have hl2 := w7 ps2[i] (List.getElem_mem _)
      cases hx : decide (ps[i] = ps2[i]) with
      | false =>
        have e : decide (ps = ps2) = false := decide_eq_false (by rintro rfl; exact (of_decide_eq_false hx) rfl)
        rw [e, Bool.false_and]
        simp only [b_rsame_0, r_rsame, unV_U, c1, hget, hga, hget2, hga2, idAV, hx, hl1, hl2, Int.toNat_natCast, List.length_map, go_sem, Nat.reduceDiv, Nat.reduceMod, ↓reduceIte, Nat.reduceEqDiff, Nat.reduceBEq, Nat.reduceSub, Nat.reduceLT, Nat.reduceAdd, Nat.reduceLeDiff, reduceCtorEq, Int.reduceEq, Int.reduceNe, Int.reduceLT, Int.reduceLE, Int.reduceToNat]
        repeat' apply And.intro
        all_goals first | omega | rfl | trivial | skip
      | true =>
        simp only [b_rsame_0, r_rsame, unV_U, c1, hget, hga, hget2, hga2, idAV, hx, hl1, hl2, Int.toNat_natCast, List.length_map, go_sem, Nat.reduceDiv, Nat.reduceMod, ↓reduceIte, Nat.reduceEqDiff, Nat.reduceBEq, Nat.reduceSub, Nat.reduceLT, Nat.reduceAdd, Nat.reduceLeDiff, reduceCtorEq, Int.reduceEq, Int.reduceNe, Int.reduceLT, Int.reduceLE, Int.reduceToNat]
        refine ⟨⟨by omega, by omega⟩, ⟨by omega, by omega⟩, ⟨by omega, by omega⟩, hR _ (i + 1) ⟨by omega, take_eq_succ i2 hil (by omega) (of_decide_eq_true hx)⟩ (by omega) rfl⟩
    · have c1 : decide ((i : Int) < (ps.length : Int)) = false := decide_eq_false (by omega)
      have e1 : ps = ps2 := by
        rw [List.take_of_length_le (by omega), List.take_of_length_le (by omega)] at i2; exact i2
      have e : decide (ps = ps2) = true := decide_eq_true e1
      rw [e, Bool.true_and]
      simp only [b_rsame_0, t_rsame_1, c1, go_sem, Nat.reduceDiv, Nat.reduceMod, ↓reduceIte, Nat.reduceEqDiff, Nat.reduceBEq, Nat.reduceSub, Nat.reduceLT, Nat.reduceAdd, Nat.reduceLeDiff, reduceCtorEq, Int.reduceEq, Int.reduceNe, Int.reduceLT, Int.reduceLE, Int.reduceToNat]
      clear hR R
      refine loop2P [] [2, 3, 6] [0, 1] (fun i : Nat => ⟨[(2, .ref 0 0 0), (3, .ref 1 0 0), (6, .int .i64 (i : Int))],
        [.cells 28 [(20, .blob (t.map U)), (1, .sl kq (ps.map idAV)), (1, .str an), (1, .str am), (1, .int .i64 at'), (1, .str az), (1, .str cn), (1, .str cm), (1, .int .i64 ct), (1, .str cz), (1, .sl ke (es.map exV)), (1, .str m)],
         .cells 28 [(20, .blob (t2.map U)), (1, .sl kq2 (ps2.map idAV)), (1, .str an2), (1, .str am2), (1, .int .i64 at2), (1, .str az2), (1, .str cn2), (1, .str cm2), (1, .int .i64 ct2), (1, .str cz2), (1, .sl ke2 (es2.map exV)), (1, .str m2)]]⟩)
        (fun i => i ≤ es.length ∧ es.take i = es2.take i) (fun i => es.length - i) 0 rfl ⟨Nat.zero_le _, by simp⟩ ⟨rfl, by rfl⟩ (fun j hj R hR => ?_)
      obtain ⟨j1, j2⟩ := hj
      by_cases hjl : j < es.length
      · have c1 : decide ((j : Int) < (es.length : Int)) = true := decide_eq_true (by omega)
        have hk : ke = 2 := q5.resolve_right (by intro h; have := congrArg List.length h; simp at this; rw [this] at hjl; simp at hjl)
        have hk2 : ke2 = 2 := w5.resolve_right (by intro h; have := congrArg List.length h; simp at this; rw [this] at h6; simp at h6; rw [h6] at hjl; simp at hjl)
        subst hk hk2
        have hget := getD_map exV es ([], []) (.agg [(1, (.str [])), (1, (.str []))]) hjl
        have hga : es.getD j ([], []) = es[j] := by simp [List.getD_eq_getElem?_getD, List.getElem?_eq_getElem hjl]
        have hget2 := getD_map exV es2 ([], []) (.agg [(1, (.str [])), (1, (.str []))]) (show j < es2.length by omega)
        have hga2 : es2.getD j ([], []) = es2[j] := by simp [List.getD_eq_getElem?_getD, List.getElem?_eq_getElem (show j < es2.length by omega)]
        have hpe : (decide (es[j].1 = es2[j].1) && decide (es[j].2 = es2[j].2)) = decide (es[j] = es2[j]) := by
          rw [Bool.eq_iff_iff]; simp [Prod.ext_iff]
        cases hx : decide (es[j] = es2[j]) with
        | false =>
          have e : decide (es = es2) = false := decide_eq_false (by rintro rfl; exact (of_decide_eq_false hx) rfl)
          rw [e]
          simp only [b_rsame_1, r_rsame, c1, hget, hga, hget2, hga2, exV, hpe, hx, Int.toNat_natCast, go_sem, Nat.reduceDiv, Nat.reduceMod, ↓reduceIte, Nat.reduceEqDiff, Nat.reduceBEq, Nat.reduceSub, Nat.reduceLT, Nat.reduceAdd, Nat.reduceLeDiff, reduceCtorEq, Int.reduceEq, Int.reduceNe, Int.reduceLT, Int.reduceLE, Int.reduceToNat]
          repeat' apply And.intro
          all_goals first | omega | rfl | trivial | skip
        | true =>
          simp only [b_rsame_1, r_rsame, c1, hget, hga, hget2, hga2, exV, hpe, hx, Int.toNat_natCast, go_sem, Nat.reduceDiv, Nat.reduceMod, ↓reduceIte, Nat.reduceEqDiff, Nat.reduceBEq, Nat.reduceSub, Nat.reduceLT, Nat.reduceAdd, Nat.reduceLeDiff, reduceCtorEq, Int.reduceEq, Int.reduceNe, Int.reduceLT, Int.reduceLE, Int.reduceToNat]
          refine ⟨⟨by omega, by omega⟩, ⟨by omega, by omega⟩, ⟨by omega, by omega⟩, hR _ (j + 1) ⟨by omega, take_eq_succ j2 hjl (by omega) (of_decide_eq_true hx)⟩ (by omega) rfl⟩
      · have c1 : decide ((j : Int) < (es.length : Int)) = false := decide_eq_false (by omega)
        have e1 : es = es2 := by
          rw [List.take_of_length_le (by omega), List.take_of_length_le (by omega)] at j2; exact j2
        have e : decide (es = es2) = true := decide_eq_true e1
        rw [e]
        simp only [b_rsame_1, t_rsame_0, r_rsame, c1, go_sem, Nat.reduceDiv, Nat.reduceMod, ↓reduceIte, Nat.reduceEqDiff, Nat.reduceBEq, Nat.reduceSub, Nat.reduceLT, Nat.reduceAdd, Nat.reduceLeDiff, reduceCtorEq, Int.reduceEq, Int.reduceNe, Int.reduceLT, Int.reduceLE, Int.reduceToNat]
  · cases hs
end Go.Proofs.YtlkaaoekbmegkaaGreatDoor
