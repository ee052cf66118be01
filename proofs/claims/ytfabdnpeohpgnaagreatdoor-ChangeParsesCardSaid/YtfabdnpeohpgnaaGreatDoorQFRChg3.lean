import Derived.Test.YtfabdnpeohpgnaaGreatDoorQFRepl
import Derived.Test.YtfabdnpeohpgnaaGreatDoorQFGPrn
import Derived.Test.YtfabdnpeohpgnaaGreatDoorQT2h
import Derived.Test.YtfabdnpeohpgnaaGreatDoorQRParse2
import Derived.Test.YtfabdnpeohpgnaaGreatDoorQFGVal
import Derived.Test.YtfabdnpeohpgnaaGreatDoorQFNRight
namespace Go.Proofs.YtfabdnpeohpgnaaGreatDoor
set_option linter.all false
open Go.RowKit
open Go.Lib (index hasPrefix cut indexAny itoa)
def rgprnS : Spec := fun xs hp => match xs, hp with
  | [.agg [(20, .blob m), (1, .str u), (1, .int .i64 t), (1, .int .i64 z), (1, .sl ke es), (1, .sl kf fs), (1, .str d)]], [] =>
    some ⟨.str (bodyH ⟨unV m, u, t, z, es.map unEx, fs.map unS, d⟩), [], m = (unV m).map U ∧ es = (es.map unEx).map exV ∧ fs = (fs.map unS).map AV.str ∧ (ke = 2 ∨ es = []) ∧ (kf = 1 ∨ fs = []) ∧ sizeH ⟨unV m, u, t, z, es.map unEx, fs.map unS, d⟩⟩
  | _, _ => none
def phiRP : Phi := phiL [(21, [], rhexS), (22, [], itoaS), (23, [], rgvalueS)]
theorem phiRP_ok : PhiOk Tryz.prog phiRP := phi_cons rhex_ok (by kernel_rfl) (phi_cons rdec_ok (by kernel_rfl) (phi_cons rgvalue_ok (by kernel_rfl) phi_nil))
theorem phiRP_1 : phiRP 21 = some ([], rhexS) := rfl
theorem phiRP_2 : phiRP 22 = some ([], itoaS) := rfl
theorem phiRP_3 : phiRP 23 = some ([], rgvalueS) := rfl
def headH (m u : List UInt8) (t z : Int) : List UInt8 := hexL m ++ 10 :: (u ++ 10 :: (itoa t ++ 32 :: itoa z))
theorem body_shape (c : ChgL) : bodyH c = headH c.man c.user c.time c.zone ++ exsT c.extras ++ 10 :: (c.files.flatMap fileT) ++ 10 :: c.desc := by
  unfold bodyH dateT headH; simp
set_option maxHeartbeats 4000000 in
theorem rgprn_ok : FnOk Tryz.prog 10 rgprnS := by
  refine fn_slim2 Tryz.func10 s_rgprn phiRP_ok ?_
  intro xs hp r hs hp'
  unfold rgprnS at hs
  split at hs
  · rename_i m u t z ke es kf fs d
    injection hs with hs; subst hs
    obtain ⟨q1, q2, q3, q4, q5, z1, z2, z3, z4, z5, z6, z7, z8, z9, z10, z11⟩ := hp'
    generalize unV m = m at *
    subst q1
    generalize es.map unEx = es at *
    subst q2
    generalize fs.map unS = fs at *
    subst q3
    simp only at z1 z2 z3 z4 z5 z6 z7 z8 z9 z10 z11
    refine ⟨len_le (by kernel_rfl), ?_⟩
    have l1 := Lib.itoa_length_le t z10.1 z10.2
    have l2 := Lib.itoa_length_le z z11.1 z11.2
    have hh := hexL_length m
    have hH : (headH m u t z).length ≤ 2000000 := by unfold headH; simp only [List.length_append, List.length_cons]; omega
    have eH : hexL m ++ [10] ++ u ++ [10] ++ itoa t ++ [32] ++ itoa z = headH m u t z := by unfold headH; simp
    rw [body_shape]
    simp only
    simp only [c_rgprn, phiRP_1, phiRP_2, rhexS, itoaS, unV_U, hexI_eq, List.length_map, go_sem, Nat.reduceDiv, Nat.reduceMod, ↓reduceIte, Nat.reduceEqDiff, Nat.reduceBEq, Nat.reduceSub, Nat.reduceLT, Nat.reduceAdd, Nat.reduceLeDiff, reduceCtorEq, Int.reduceEq, Int.reduceNe, Int.reduceLT, Int.reduceLE, Int.reduceToNat]
    (repeat' apply And.intro)
    all_goals first | exact z1 | exact z10.1 | exact z10.2 | exact z11.1 | exact z11.2 | (first | omega | (simp only [lenOk, bytesOk, inI, IntKind.bits, List.length_append, Bs_len, List.length_cons, List.length_nil, List.length_map, List.length_take, List.length_drop, List.length_replicate]; omega)) | skip
    refine loop2P [] [1, 3, 4] [0] (fun i : Nat => ⟨[(1, .ref 0 0 0), (3, .str (headH m u t z ++ exsT (es.take i))), (4, .int .i64 (i : Int))], [.cells 26 [(20, .blob (m.map U)), (1, .str u), (1, .int .i64 t), (1, .int .i64 z), (1, .sl ke (es.map exV)), (1, .sl kf (fs.map AV.str)), (1, .str d)]]⟩)
      (fun i => i ≤ es.length) (fun i => es.length - i) 0 ?_ (Nat.zero_le _) ⟨rfl, by rfl⟩ (fun i hi R hR => ?_)
    · simp only [List.take_zero, exsT, List.append_nil, ← eH]
      rfl
    by_cases hil : i < es.length
    · have c1 : decide ((i : Int) < (es.length : Int)) = true := decide_eq_true (by omega)
      have hk : ke = 2 := q4.resolve_right (by intro h; have := congrArg List.length h; simp at this; rw [this] at hil; simp at hil)
      have hget := getD_map exV es ([], []) (AV.agg [(1, AV.str []), (1, AV.str [])]) hil
      have hga : es.getD i ([], []) = es[i] := by simp [List.getD_eq_getElem?_getD, List.getElem?_eq_getElem hil]
      obtain ⟨x1, x2⟩ := z5 es[i] (List.getElem_mem _)
      have htk := exsT_take es hil
      have hle := exsT_take_le es (es.length - (i + 1)) (i + 1) (by omega)
      subst hk
      generalize es[i] = x at *
      have htl := tol_len x.2
      rw [htk, List.length_append, List.length_append] at hle
      unfold exT at htk hle
      rw [List.length_append, List.length_cons] at hle
      by_cases h0 : i = 0
      · have d0 : decide ((i : Int) = 0) = true := decide_eq_true (by omega)
        rw [if_pos h0] at htk hle
        have e : headH m u t z ++ exsT (es.take i) ++ [32] ++ x.1 ++ [58] ++ tolL x.2 = headH m u t z ++ exsT (es.take (i + 1)) := by rw [htk]; simp
        simp only [b_rgprn_0, c1, d0, hget, hga, exV, phiRP_3, rgvalueS, Int.toNat_natCast, List.length_map, go_sem, Nat.reduceDiv, Nat.reduceMod, ↓reduceIte, Nat.reduceEqDiff, Nat.reduceBEq, Nat.reduceSub, Nat.reduceLT, Nat.reduceAdd, Nat.reduceLeDiff, reduceCtorEq, Int.reduceEq, Int.reduceNe, Int.reduceLT, Int.reduceLE, Int.reduceToNat]
        (repeat' apply And.intro)
        all_goals first | omega | (first | omega | (simp only [lenOk, bytesOk, inI, IntKind.bits, List.length_append, Bs_len, List.length_cons, List.length_nil, List.length_map, List.length_take, List.length_drop, List.length_replicate]; omega)) | skip
        rw [e]
        exact hR _ (i + 1) hil (by omega) rfl
      · have d0 : decide ((i : Int) = 0) = false := decide_eq_false (by omega)
        rw [if_neg h0] at htk hle
        have e : headH m u t z ++ exsT (es.take i) ++ [0] ++ x.1 ++ [58] ++ tolL x.2 = headH m u t z ++ exsT (es.take (i + 1)) := by rw [htk]; simp
        simp only [b_rgprn_0, c1, d0, hget, hga, exV, phiRP_3, rgvalueS, Int.toNat_natCast, List.length_map, go_sem, Nat.reduceDiv, Nat.reduceMod, ↓reduceIte, Nat.reduceEqDiff, Nat.reduceBEq, Nat.reduceSub, Nat.reduceLT, Nat.reduceAdd, Nat.reduceLeDiff, reduceCtorEq, Int.reduceEq, Int.reduceNe, Int.reduceLT, Int.reduceLE, Int.reduceToNat]
        (repeat' apply And.intro)
        all_goals first | omega | (first | omega | (simp only [lenOk, bytesOk, inI, IntKind.bits, List.length_append, Bs_len, List.length_cons, List.length_nil, List.length_map, List.length_take, List.length_drop, List.length_replicate]; omega)) | skip
        rw [e]
        exact hR _ (i + 1) hil (by omega) rfl
    have c1 : decide ((i : Int) < (es.length : Int)) = false := decide_eq_false (by omega)
    have hfl := files_len fs
    rw [List.take_of_length_le (by omega)]
    simp only [b_rgprn_0, t_rgprn_1, c1, List.length_map, go_sem, Nat.reduceDiv, Nat.reduceMod, ↓reduceIte, Nat.reduceEqDiff, Nat.reduceBEq, Nat.reduceSub, Nat.reduceLT, Nat.reduceAdd, Nat.reduceLeDiff, reduceCtorEq, Int.reduceEq, Int.reduceNe, Int.reduceLT, Int.reduceLE, Int.reduceToNat]
    clear hR R
    have hHl : (headH m u t z ++ exsT es).length ≤ 102000000 := by rw [List.length_append]; omega
    generalize headH m u t z ++ exsT es = H at *
    refine ⟨by (first | omega | (simp only [lenOk, bytesOk, inI, IntKind.bits, List.length_append, Bs_len, List.length_cons, List.length_nil, List.length_map, List.length_take, List.length_drop, List.length_replicate]; omega)), ?_⟩
    refine loop2P [] [1, 3, 5] [0] (fun i : Nat => ⟨[(1, .ref 0 0 0), (3, .str (H ++ 10 :: (fs.take i).flatMap fileT)), (5, .int .i64 (i : Int))], [.cells 26 [(20, .blob (m.map U)), (1, .str u), (1, .int .i64 t), (1, .int .i64 z), (1, .sl ke (es.map exV)), (1, .sl kf (fs.map AV.str)), (1, .str d)]]⟩)
      (fun i => i ≤ fs.length) (fun i => fs.length - i) 0 (by rfl) (Nat.zero_le _) ⟨rfl, by rfl⟩ (fun i hi R hR => ?_)
    by_cases hil : i < fs.length
    · have c1 : decide ((i : Int) < (fs.length : Int)) = true := decide_eq_true (by omega)
      have hk : kf = 1 := q5.resolve_right (by intro h; have := congrArg List.length h; simp at this; rw [this] at hil; simp at hil)
      have hget := getD_map AV.str fs [] (AV.str []) hil
      have hga : fs.getD i [] = fs[i] := by simp [List.getD_eq_getElem?_getD, List.getElem?_eq_getElem hil]
      have hle := flatMap_take_le fileT fs i
      have hx := z6 fs[i] (List.getElem_mem _)
      have e : H ++ 10 :: (fs.take i).flatMap fileT ++ fs[i] ++ [10] = H ++ 10 :: (fs.take (i + 1)).flatMap fileT := by
        rw [← flatMap_take fileT fs hil]; simp [fileT]
      subst hk
      simp only [b_rgprn_1, c1, hget, hga, Int.toNat_natCast, List.length_map, go_sem, Nat.reduceDiv, Nat.reduceMod, ↓reduceIte, Nat.reduceEqDiff, Nat.reduceBEq, Nat.reduceSub, Nat.reduceLT, Nat.reduceAdd, Nat.reduceLeDiff, reduceCtorEq, Int.reduceEq, Int.reduceNe, Int.reduceLT, Int.reduceLE, Int.reduceToNat]
      (repeat' apply And.intro)
      all_goals first | omega | (first | omega | (simp only [lenOk, bytesOk, inI, IntKind.bits, List.length_append, Bs_len, List.length_cons, List.length_nil, List.length_map, List.length_take, List.length_drop, List.length_replicate]; omega)) | skip
      rw [e]
      exact hR _ (i + 1) hil (by omega) rfl
    · have c1 : decide ((i : Int) < (fs.length : Int)) = false := decide_eq_false (by omega)
      have hle := flatMap_take_le fileT fs i
      have e : fs.take i = fs := List.take_of_length_le (by omega)
      rw [e] at hle ⊢
      simp only [b_rgprn_1, t_rgprn_0, r_rgprn, c1, List.length_map, go_sem, Nat.reduceDiv, Nat.reduceMod, ↓reduceIte, Nat.reduceEqDiff, Nat.reduceBEq, Nat.reduceSub, Nat.reduceLT, Nat.reduceAdd, Nat.reduceLeDiff, reduceCtorEq, Int.reduceEq, Int.reduceNe, Int.reduceLT, Int.reduceLE, Int.reduceToNat]
      (repeat' apply And.intro)
      all_goals first | omega | (first | omega | (simp only [lenOk, bytesOk, inI, IntKind.bits, List.length_append, Bs_len, List.length_cons, List.length_nil, List.length_map, List.length_take, List.length_drop, List.length_replicate]; omega)) | skip
      simp
  · cases hs
def argS7 (m : List Value) (ke : Nat) (es : List AV) (kf : Nat) (fs : List AV) : Prop := m = (unV m).map U ∧ es = (es.map unEx).map exV ∧ fs = (fs.map unS).map AV.str ∧ (ke = 2 ∨ es = []) ∧ (kf = 1 ∨ fs = []) ∧ (unV m).length = 20 ∧ es.length ≤ 1000000 ∧ fs.length ≤ 1000000
def rgsameS : Spec := fun xs hp => match xs, hp with
  | [.agg [(20, .blob m), (1, .str u), (1, .int .i64 t), (1, .int .i64 z), (1, .sl ke es), (1, .sl kf fs), (1, .str d)], .agg [(20, .blob m2), (1, .str u2), (1, .int .i64 t2), (1, .int .i64 z2), (1, .sl ke2 es2), (1, .sl kf2 fs2), (1, .str d2)]], [] =>
    some ⟨.bool (sameH ⟨unV m, u, t, z, es.map unEx, fs.map unS, d⟩ ⟨unV m2, u2, t2, z2, es2.map unEx, fs2.map unS, d2⟩), [], argS7 m ke es kf fs ∧ argS7 m2 ke2 es2 kf2 fs2⟩
  | _, _ => none
theorem takeX_succ {α : Type} {l m : List α} {i : Nat} (h : l.take i = m.take i) (hi : i < l.length) (hj : i < m.length) (e : l[i] = m[i]) : l.take (i + 1) = m.take (i + 1) := by
  rw [List.take_add_one, List.take_add_one, h, List.getElem?_eq_getElem hi, List.getElem?_eq_getElem hj, e]
set_option maxHeartbeats 4000000 in
theorem rgsame_ok : FnOk Tryz.prog 11 rgsameS := by
  refine fn_slim2 Tryz.func11 s_rgsame (Φ := phiL []) phi_nil ?_
  intro xs hp r hs hp'
  unfold rgsameS at hs
  split at hs
  · injection hs with hs; subst hs
    rename_i m u t z ke es kf fs d m2 u2 t2 z2 ke2 es2 kf2 fs2 d2
    obtain ⟨⟨q1, q2, q3, q4, q5, q6, q7, q8⟩, w1, w2, w3, w4, w5, w6, w7, w8⟩ := hp'
    generalize unV m = m at *
    subst q1
    generalize es.map unEx = es at *
    subst q2
    generalize fs.map unS = fs at *
    subst q3
    generalize unV m2 = m2 at *
    subst w1
    generalize es2.map unEx = es2 at *
    subst w2
    generalize fs2.map unS = fs2 at *
    subst w3
    rw [List.length_map] at q7 q8 w7 w8
    refine ⟨len_le (by kernel_rfl), ?_⟩
    unfold sameH
    simp only
    cases h1 : decide (m = m2) with
    | false =>
      simp only [c_rgsame, h1, r_rgsame, unV_U, List.length_map, Bool.false_and, Bool.and_false, Bool.true_and, go_sem, Nat.reduceDiv, Nat.reduceMod, ↓reduceIte, Nat.reduceEqDiff, Nat.reduceBEq, Nat.reduceSub, Nat.reduceLT, Nat.reduceAdd, Nat.reduceLeDiff, reduceCtorEq, Int.reduceEq, Int.reduceNe, Int.reduceLT, Int.reduceLE, Int.reduceToNat]
      (repeat' apply And.intro); all_goals first | exact q6 | exact w6 | omega | rfl | skip
    | true =>
    cases h2 : decide (u = u2) with
    | false =>
      simp only [c_rgsame, h1, h2, r_rgsame, unV_U, List.length_map, Bool.false_and, Bool.and_false, Bool.true_and, go_sem, Nat.reduceDiv, Nat.reduceMod, ↓reduceIte, Nat.reduceEqDiff, Nat.reduceBEq, Nat.reduceSub, Nat.reduceLT, Nat.reduceAdd, Nat.reduceLeDiff, reduceCtorEq, Int.reduceEq, Int.reduceNe, Int.reduceLT, Int.reduceLE, Int.reduceToNat]
      (repeat' apply And.intro); all_goals first | exact q6 | exact w6 | omega | rfl | skip
    | true =>
    cases h3 : decide (t = t2) with
    | false =>
      simp only [c_rgsame, h1, h2, h3, r_rgsame, unV_U, List.length_map, Bool.false_and, Bool.and_false, Bool.true_and, go_sem, Nat.reduceDiv, Nat.reduceMod, ↓reduceIte, Nat.reduceEqDiff, Nat.reduceBEq, Nat.reduceSub, Nat.reduceLT, Nat.reduceAdd, Nat.reduceLeDiff, reduceCtorEq, Int.reduceEq, Int.reduceNe, Int.reduceLT, Int.reduceLE, Int.reduceToNat]
      (repeat' apply And.intro); all_goals first | exact q6 | exact w6 | omega | rfl | skip
    | true =>
    cases h4 : decide (z = z2) with
    | false =>
      simp only [c_rgsame, h1, h2, h3, h4, r_rgsame, unV_U, List.length_map, Bool.false_and, Bool.and_false, Bool.true_and, go_sem, Nat.reduceDiv, Nat.reduceMod, ↓reduceIte, Nat.reduceEqDiff, Nat.reduceBEq, Nat.reduceSub, Nat.reduceLT, Nat.reduceAdd, Nat.reduceLeDiff, reduceCtorEq, Int.reduceEq, Int.reduceNe, Int.reduceLT, Int.reduceLE, Int.reduceToNat]
      (repeat' apply And.intro); all_goals first | exact q6 | exact w6 | omega | rfl | skip
    | true =>
    cases h5 : decide (d = d2) with
    | false =>
      simp only [c_rgsame, h1, h2, h3, h4, h5, r_rgsame, unV_U, List.length_map, Bool.false_and, Bool.and_false, Bool.true_and, go_sem, Nat.reduceDiv, Nat.reduceMod, ↓reduceIte, Nat.reduceEqDiff, Nat.reduceBEq, Nat.reduceSub, Nat.reduceLT, Nat.reduceAdd, Nat.reduceLeDiff, reduceCtorEq, Int.reduceEq, Int.reduceNe, Int.reduceLT, Int.reduceLE, Int.reduceToNat]
      (repeat' apply And.intro); all_goals first | exact q6 | exact w6 | omega | rfl | skip
    | true =>
    by_cases h6 : es.length = es2.length
    rotate_left
    · have d6 : decide ((es.length : Int) = (es2.length : Int)) = false := decide_eq_false (by omega)
      have e : decide (es = es2) = false := decide_eq_false (by rintro rfl; exact h6 rfl)
      simp only [c_rgsame, h1, h2, h3, h4, h5, d6, e, r_rgsame, unV_U, List.length_map, Bool.false_and, Bool.and_false, Bool.true_and, go_sem, Nat.reduceDiv, Nat.reduceMod, ↓reduceIte, Nat.reduceEqDiff, Nat.reduceBEq, Nat.reduceSub, Nat.reduceLT, Nat.reduceAdd, Nat.reduceLeDiff, reduceCtorEq, Int.reduceEq, Int.reduceNe, Int.reduceLT, Int.reduceLE, Int.reduceToNat]
      (repeat' apply And.intro); all_goals first | exact q6 | exact w6 | omega | rfl | skip
    have d6 : decide ((es.length : Int) = (es2.length : Int)) = true := decide_eq_true (by omega)
    by_cases h7 : fs.length = fs2.length
    rotate_left
    · have d7 : decide ((fs.length : Int) = (fs2.length : Int)) = false := decide_eq_false (by omega)
      have e : decide (fs = fs2) = false := decide_eq_false (by rintro rfl; exact h7 rfl)
      simp only [c_rgsame, h1, h2, h3, h4, h5, d6, d7, e, r_rgsame, unV_U, List.length_map, Bool.false_and, Bool.and_false, Bool.true_and, go_sem, Nat.reduceDiv, Nat.reduceMod, ↓reduceIte, Nat.reduceEqDiff, Nat.reduceBEq, Nat.reduceSub, Nat.reduceLT, Nat.reduceAdd, Nat.reduceLeDiff, reduceCtorEq, Int.reduceEq, Int.reduceNe, Int.reduceLT, Int.reduceLE, Int.reduceToNat]
      (repeat' apply And.intro); all_goals first | exact q6 | exact w6 | omega | rfl | skip
    have d7 : decide ((fs.length : Int) = (fs2.length : Int)) = true := decide_eq_true (by omega)
    simp only [c_rgsame, h1, h2, h3, h4, h5, d6, d7, unV_U, Bool.true_and, List.length_map, go_sem, Nat.reduceDiv, Nat.reduceMod, ↓reduceIte, Nat.reduceEqDiff, Nat.reduceBEq, Nat.reduceSub, Nat.reduceLT, Nat.reduceAdd, Nat.reduceLeDiff, reduceCtorEq, Int.reduceEq, Int.reduceNe, Int.reduceLT, Int.reduceLE, Int.reduceToNat]
    refine ⟨⟨q6, w6⟩, ?_⟩
    refine loop2P [] [2, 3, 5] [0, 1] (fun i : Nat => ⟨[(2, .ref 0 0 0), (3, .ref 1 0 0), (5, .int .i64 (i : Int))], [.cells 26 [(20, .blob (m.map U)), (1, .str u), (1, .int .i64 t), (1, .int .i64 z), (1, .sl ke (es.map exV)), (1, .sl kf (fs.map AV.str)), (1, .str d)], .cells 26 [(20, .blob (m2.map U)), (1, .str u2), (1, .int .i64 t2), (1, .int .i64 z2), (1, .sl ke2 (es2.map exV)), (1, .sl kf2 (fs2.map AV.str)), (1, .str d2)]]⟩)
      (fun i => i ≤ es.length ∧ es.take i = es2.take i) (fun i => es.length - i) 0 rfl ⟨Nat.zero_le _, by simp⟩ ⟨rfl, by rfl⟩ (fun j hj R hR => ?_)
    obtain ⟨j1, j2⟩ := hj
    by_cases hjl : j < es.length
    · have c1 : decide ((j : Int) < (es.length : Int)) = true := decide_eq_true (by omega)
      have hk : ke = 2 := q4.resolve_right (by intro h; have := congrArg List.length h; simp at this; rw [this] at hjl; simp at hjl)
      have hk2 : ke2 = 2 := w4.resolve_right (by intro h; have := congrArg List.length h; simp at this; rw [this] at h6; simp at h6; rw [h6] at hjl; simp at hjl)
      subst hk hk2
      have hget := getD_map exV es ([], []) (.agg [(1, (.str [])), (1, (.str []))]) hjl
      have hga : es.getD j ([], []) = es[j] := by simp [List.getD_eq_getElem?_getD, List.getElem?_eq_getElem hjl]
      have hget2 := getD_map exV es2 ([], []) (.agg [(1, (.str [])), (1, (.str []))]) (show j < es2.length by omega)
      have hga2 : es2.getD j ([], []) = es2[j] := by simp [List.getD_eq_getElem?_getD, List.getElem?_eq_getElem (show j < es2.length by omega)]
      have hpe : (decide (es[j].1 = es2[j].1) && decide (es[j].2 = es2[j].2)) = decide (es[j] = es2[j]) := by
        rw [Bool.eq_iff_iff]; simp [Prod.ext_iff]
      cases hx : decide (es[j] = es2[j]) with
      | false =>
        have e : decide (es = es2) = false := decide_eq_false (by rintro rfl; exact (of_decide_eq_false hx) rfl)
        rw [e]
        simp only [b_rgsame_0, r_rgsame, c1, hget, hga, hget2, hga2, exV, hpe, hx, Int.toNat_natCast, List.length_map, go_sem, Nat.reduceDiv, Nat.reduceMod, ↓reduceIte, Nat.reduceEqDiff, Nat.reduceBEq, Nat.reduceSub, Nat.reduceLT, Nat.reduceAdd, Nat.reduceLeDiff, reduceCtorEq, Int.reduceEq, Int.reduceNe, Int.reduceLT, Int.reduceLE, Int.reduceToNat]
        repeat' apply And.intro
        all_goals first | omega | rfl | trivial | skip
      | true =>
        simp only [b_rgsame_0, r_rgsame, c1, hget, hga, hget2, hga2, exV, hpe, hx, Int.toNat_natCast, List.length_map, go_sem, Nat.reduceDiv, Nat.reduceMod, ↓reduceIte, Nat.reduceEqDiff, Nat.reduceBEq, Nat.reduceSub, Nat.reduceLT, Nat.reduceAdd, Nat.reduceLeDiff, reduceCtorEq, Int.reduceEq, Int.reduceNe, Int.reduceLT, Int.reduceLE, Int.reduceToNat]
        refine ⟨⟨by omega, by omega⟩, ⟨by omega, by omega⟩, ⟨by omega, by omega⟩, hR _ (j + 1) ⟨by omega, takeX_succ j2 hjl (by omega) (of_decide_eq_true hx)⟩ (by omega) rfl⟩
    have c1 : decide ((j : Int) < (es.length : Int)) = false := decide_eq_false (by omega)
    have e1 : es = es2 := by
      rw [List.take_of_length_le (by omega), List.take_of_length_le (by omega)] at j2; exact j2
    have e : decide (es = es2) = true := decide_eq_true e1
    rw [e]
    simp only [b_rgsame_0, t_rgsame_1, c1, Bool.true_and, List.length_map, go_sem, Nat.reduceDiv, Nat.reduceMod, ↓reduceIte, Nat.reduceEqDiff, Nat.reduceBEq, Nat.reduceSub, Nat.reduceLT, Nat.reduceAdd, Nat.reduceLeDiff, reduceCtorEq, Int.reduceEq, Int.reduceNe, Int.reduceLT, Int.reduceLE, Int.reduceToNat]
    clear hR R
    refine loop2P [] [2, 3, 6] [0, 1] (fun i : Nat => ⟨[(2, .ref 0 0 0), (3, .ref 1 0 0), (6, .int .i64 (i : Int))], [.cells 26 [(20, .blob (m.map U)), (1, .str u), (1, .int .i64 t), (1, .int .i64 z), (1, .sl ke (es.map exV)), (1, .sl kf (fs.map AV.str)), (1, .str d)], .cells 26 [(20, .blob (m2.map U)), (1, .str u2), (1, .int .i64 t2), (1, .int .i64 z2), (1, .sl ke2 (es2.map exV)), (1, .sl kf2 (fs2.map AV.str)), (1, .str d2)]]⟩)
      (fun i => i ≤ fs.length ∧ fs.take i = fs2.take i) (fun i => fs.length - i) 0 rfl ⟨Nat.zero_le _, by simp⟩ ⟨rfl, by rfl⟩ (fun i hi R hR => ?_)
    obtain ⟨i1, i2⟩ := hi
    by_cases hil : i < fs.length
    · have c1 : decide ((i : Int) < (fs.length : Int)) = true := decide_eq_true (by omega)
      have hk : kf = 1 := q5.resolve_right (by intro h; have := congrArg List.length h; simp at this; rw [this] at hil; simp at hil)
      have hk2 : kf2 = 1 := w5.resolve_right (by intro h; have := congrArg List.length h; simp at this; rw [this] at h7; simp at h7; rw [h7] at hil; simp at hil)
      subst hk hk2
      have hget := getD_map AV.str fs [] (AV.str []) hil
      have hga : fs.getD i [] = fs[i] := by simp [List.getD_eq_getElem?_getD, List.getElem?_eq_getElem hil]
      have hget2 := getD_map AV.str fs2 [] (AV.str []) (show i < fs2.length by omega)
      have hga2 : fs2.getD i [] = fs2[i] := by simp [List.getD_eq_getElem?_getD, List.getElem?_eq_getElem (show i < fs2.length by omega)]
      cases hx : decide (fs[i] = fs2[i]) with
      | false =>
        have e : decide (fs = fs2) = false := decide_eq_false (by rintro rfl; exact (of_decide_eq_false hx) rfl)
        rw [e]
        simp only [b_rgsame_1, r_rgsame, c1, hget, hga, hget2, hga2, hx, Int.toNat_natCast, List.length_map, go_sem, Nat.reduceDiv, Nat.reduceMod, ↓reduceIte, Nat.reduceEqDiff, Nat.reduceBEq, Nat.reduceSub, Nat.reduceLT, Nat.reduceAdd, Nat.reduceLeDiff, reduceCtorEq, Int.reduceEq, Int.reduceNe, Int.reduceLT, Int.reduceLE, Int.reduceToNat]
        repeat' apply And.intro
        all_goals first | omega | rfl | trivial | skip
      | true =>
        simp only [b_rgsame_1, r_rgsame, c1, hget, hga, hget2, hga2, hx, Int.toNat_natCast, List.length_map, go_sem, Nat.reduceDiv, Nat.reduceMod, ↓reduceIte, Nat.reduceEqDiff, Nat.reduceBEq, Nat.reduceSub, Nat.reduceLT, Nat.reduceAdd, Nat.reduceLeDiff, reduceCtorEq, Int.reduceEq, Int.reduceNe, Int.reduceLT, Int.reduceLE, Int.reduceToNat]
        refine ⟨⟨by omega, by omega⟩, ⟨by omega, by omega⟩, ⟨by omega, by omega⟩, hR _ (i + 1) ⟨by omega, takeX_succ i2 hil (by omega) (of_decide_eq_true hx)⟩ (by omega) rfl⟩
    · have c1 : decide ((i : Int) < (fs.length : Int)) = false := decide_eq_false (by omega)
      have e1 : fs = fs2 := by
        rw [List.take_of_length_le (by omega), List.take_of_length_le (by omega)] at i2; exact i2
      have e : decide (fs = fs2) = true := decide_eq_true e1
      rw [e]
      simp only [b_rgsame_1, t_rgsame_0, r_rgsame, c1, List.length_map, go_sem, Nat.reduceDiv, Nat.reduceMod, ↓reduceIte, Nat.reduceEqDiff, Nat.reduceBEq, Nat.reduceSub, Nat.reduceLT, Nat.reduceAdd, Nat.reduceLeDiff, reduceCtorEq, Int.reduceEq, Int.reduceNe, Int.reduceLT, Int.reduceLE, Int.reduceToNat]
  · cases hs
end Go.Proofs.YtfabdnpeohpgnaaGreatDoor
namespace Go.Proofs.YtfabdnpeohpgnaaGreatDoor
set_option linter.all false
open Go.RowKit
open Go.Lib (index hasPrefix cut indexAny itoa)
def exWt (es : List ExL) : Nat := (es.map fun x => x.1.length + x.2.length + 2).sum
theorem exWt_app (es : List ExL) (x : ExL) : exWt (es ++ [x]) = exWt es + (x.1.length + x.2.length + 2) := by simp [exWt]
theorem exWt_len : ∀ es : List ExL, 2 * es.length ≤ exWt es
  | [] => Nat.le_refl _
  | x :: es => by have := exWt_len es; simp only [exWt, List.map_cons, List.sum_cons, List.length_cons] at this ⊢; omega
theorem exWt_mem : ∀ (es : List ExL) (x : ExL), x ∈ es → x.1.length + x.2.length + 2 ≤ exWt es
  | y :: es, x, h => by
    simp only [exWt, List.map_cons, List.sum_cons]
    rcases List.mem_cons.1 h with rfl | h
    · omega
    · have := exWt_mem es x h; simp only [exWt] at this; omega
theorem exT_w (x : ExL) : (exT x).length + 1 ≤ 2 * (x.1.length + x.2.length + 2) := by
  have := tol_len x.2
  unfold exT; simp only [List.length_append, List.length_cons]; omega
theorem flatE_w : ∀ es : List ExL, ((es.map exT).flatMap ((0 : UInt8) :: ·)).length ≤ 2 * exWt es
  | [] => by simp
  | x :: es => by
    have := flatE_w es
    have h := exT_w x
    simp only [exWt, List.map_cons, List.sum_cons, List.flatMap_cons, List.length_append, List.length_cons] at this ⊢; omega
theorem exsT_w : ∀ es : List ExL, (exsT es).length ≤ 2 * exWt es
  | [] => by simp [exsT]
  | x :: es => by
    have := flatE_w es
    have h := exT_w x
    simp only [exsT, joinB, exWt, List.map_cons, List.sum_cons, List.length_append, List.length_cons] at this ⊢; omega
theorem cutW {m : List UInt8} (c : UInt8) (h : m ≠ []) : (cut m [c]).1.length + 2 + 3 * (cut m [c]).2.1.length ≤ 3 * m.length ∧ (cut m [c]).2.1.length < m.length ∧ (cut m [c]).1.length + 1 + 2 * (cut m [c]).2.1.length ≤ 2 * m.length := by
  have hm := List.length_pos_iff.2 h
  cases hc : (cut m [c]).2.2 with
  | true =>
    have e := congrArg List.length (cut1_t hc)
    simp only [List.length_append, List.length_cons] at e; omega
  | false => rw [(cut_f hc).1, (cut_f hc).2]; simp only [List.length_nil]; omega
theorem exP_w (o : List UInt8) : (exP o).1.length + (exP o).2.length ≤ o.length := by
  have h := mea_len (cut o [58]).2.1
  show (cut o [58]).1.length + (meaL (cut o [58]).2.1).length ≤ o.length
  cases hc : (cut o [58]).2.2 with
  | true =>
    have e := congrArg List.length (cut1_t hc)
    simp only [List.length_append, List.length_cons] at e; omega
  | false => rw [(cut_f hc).2] at h ⊢; rw [(cut_f hc).1]; simp only [List.length_nil] at h; omega
theorem sumL_app (l : List (List UInt8)) (x : List UInt8) : sumL (l ++ [x]) = sumL l + x.length := by simp [sumL]
theorem sumL_mem : ∀ (l : List (List UInt8)) (x : List UInt8), x ∈ l → x.length ≤ sumL l
  | y :: l, x, h => by
    simp only [sumL, List.map_cons, List.sum_cons]
    rcases List.mem_cons.1 h with rfl | h
    · omega
    · have := sumL_mem l x h; simp only [sumL] at this; omega
theorem nmV_rg (s : List UInt8) : inI (nmV s) := by
  have h1 := decN_lt s
  have h2 := decN_lt (s.drop 1)
  unfold nmV inI
  split <;> constructor <;> omega
def chg0 : List (Nat × AV) := [(20, .blob (List.replicate 20 (.int .u8 0))), (1, .str []), (1, .int .i64 0), (1, .int .i64 0), (1, .con (.slice none 0 0)), (1, .con (.slice none 0 0)), (1, .str [])]
noncomputable def rgparR (c : ChgL) (ok : Bool) (pr : Prop) : Option Ret := if ok = true then
    some ⟨.tup [.agg [(20, .blob (c.man.map U)), (1, .str c.user), (1, .int .i64 c.time), (1, .int .i64 c.zone), (1, .own 0 c.extras.length), (1, .own 1 c.files.length), (1, .str c.desc)], .bool true],
      [.row 47 2 c.extras.length (c.extras.map exV), .row 9 1 c.files.length (c.files.map AV.str)], pr⟩
  else some ⟨.tup [.agg chg0, .bool false], [], pr⟩
noncomputable def rgparS : Spec := fun xs hp => match xs, hp with
  | [.str s], [] => rgparR (guessH s) (rightH (guessH s) && decide (bodyH (guessH s) = s)) (s.length ≤ 10000)
  | _, _ => none
theorem rgparR_pre {c : ChgL} {ok : Bool} {pr : Prop} {r : Ret} (h : rgparR c ok pr = some r) (hr : r.pre) : pr := by
  unfold rgparR at h
  split at h <;> (injection h with h; subst h; exact hr)
noncomputable def phiRG : Phi := phiL [(29, [], runtilS), (30, [], rparseS), (31, [], rnumberS), (32, [], rbackS), (8, [], rgrightS), (10, [], rgprnS)]
theorem phiRG_ok : PhiOk Tryz.prog phiRG := phi_cons runtil_ok (by kernel_rfl) (phi_cons rparse_ok (by kernel_rfl) (phi_cons rnumber_ok (by kernel_rfl) (phi_cons rback_ok (by kernel_rfl) (phi_cons rgright_ok (by kernel_rfl) (phi_cons rgprn_ok (by kernel_rfl) phi_nil)))))
theorem phiRG_1 : phiRG 29 = some ([], runtilS) := rfl
theorem phiRG_2 : phiRG 30 = some ([], rparseS) := rfl
theorem phiRG_3 : phiRG 31 = some ([], rnumberS) := rfl
theorem phiRG_4 : phiRG 32 = some ([], rbackS) := rfl
theorem phiRG_5 : phiRG 8 = some ([], rgrightS) := rfl
theorem phiRG_6 : phiRG 10 = some ([], rgprnS) := rfl
def hpG (m u : List UInt8) (t z : Int) (es : List ExL) (fs : List (List UInt8)) : List AObj :=
  [.cells 26 chg0, .cells 26 [(20, .blob (m.map U)), (1, .str u), (1, .int .i64 t), (1, .int .i64 z), (1, .own 2 es.length), (1, .own 3 fs.length), (1, .str [])],
    .row 47 2 es.length (es.map exV), .row 9 1 fs.length (fs.map AV.str)]
set_option maxHeartbeats 8000000 in
theorem rgpar_ok : FnOk Tryz.prog 13 rgparS := by
  refine fn_slim2 Tryz.func13 s_rgpar phiRG_ok ?_
  intro xs hp r hs hp'
  unfold rgparS at hs
  split at hs
  · rename_i s
    have q1' := rgparR_pre hs hp'
    refine ⟨len_le (by kernel_rfl), ?_⟩
    obtain ⟨a1, a2⟩ := cutl1' s [10]
    obtain ⟨a3, a4⟩ := cutl1' (cut s [10]).2.1 [10]
    obtain ⟨a5, a6⟩ := cutl1' (cut (cut s [10]).2.1 [10]).2.1 [10]
    obtain ⟨a7, a8⟩ := cutl1' (cut (cut (cut s [10]).2.1 [10]).2.1 [10]).1 [32]
    obtain ⟨a9, a10⟩ := cutl1' (cut (cut (cut (cut s [10]).2.1 [10]).2.1 [10]).1 [32]).2.1 [32]
    have hl20 : ∀ l, (pOut l).length = 20 := fun l => pOut_len _
    have hG : guessH s = ⟨pOut (q1 s).1, (q2 s).1, nmV (tP s).1, nmV (zP s).1, gEx ((zP s).2.1.length + 1) (zP s).2.1, (gFiles ((q3 s).2.1.length + 1) (q3 s).2.1).1, (gFiles ((q3 s).2.1.length + 1) (q3 s).2.1).2.drop 1⟩ := rfl
    simp only [c_rgpar, phiRG_1, phiRG_2, phiRG_3, phiRG_4, phiRG_5, phiRG_6, runtilS, rparseS, rnumberS, rbackS, rgrightS, rgprnS, rOut_eq, chu_0, chu_10, chu_32, chu_58, hl20, go_sem, Nat.reduceDiv, Nat.reduceMod, ↓reduceIte, Nat.reduceEqDiff, Nat.reduceBEq, Nat.reduceSub, Nat.reduceLT, Nat.reduceAdd, Nat.reduceLeDiff, reduceCtorEq, Int.reduceEq, Int.reduceNe, Int.reduceLT, Int.reduceLE, Int.reduceToNat]
    refine ⟨by omega, by omega, by omega, by omega, by omega, by omega, by omega, by omega, ?_⟩
    have b1 : (q2 s).1.length ≤ 10000 := by unfold q2 q1; omega
    have b2 : (zP s).2.1.length ≤ 10000 := by unfold zP tP q3 q2 q1; omega
    have b3 : (q3 s).2.1.length ≤ 10000 := by unfold q3 q2 q1; omega
    have b4 := nmV_rg (tP s).1
    have b5 := nmV_rg (zP s).1
    have b6 := hl20 (q1 s).1
    have b7 : nmV (tP s).1 = nmV (tP s).1 ∧ nmV (zP s).1 = nmV (zP s).1 := ⟨rfl, rfl⟩
    refine loop2P [(4164, 47, 2), (4165, 9, 1)] [0, 2, 4, 6, 10] [0, 1, 2, 3] (fun q : List ExL × List UInt8 => ⟨[(0, .str s), (2, .ref 0 0 0), (4, .ref 1 0 0), (6, .str (q3 s).2.1), (10, .str q.2)], hpG (pOut (q1 s).1) (q2 s).1 (nmV (tP s).1) (nmV (zP s).1) q.1 []⟩)
      (fun q => (∃ f, q.2.length < f ∧ q.1 ++ gEx f q.2 = gEx ((zP s).2.1.length + 1) (zP s).2.1) ∧ exWt q.1 + 3 * q.2.length ≤ 30000) (fun q => q.2.length) ([], (zP s).2.1) (by rfl) ⟨⟨_, Nat.lt_succ_self _, rfl⟩, by simp only [exWt, List.map_nil, List.sum_nil]; omega⟩ ⟨rfl, by rfl⟩ (fun q hq R hR => ?_)
    clear b7 a1 a2 a3 a4 a5 a6 a7 a8 a9 a10
    generalize (zP s).2.1 = M at *
    generalize (q3 s).2.1 = N at *
    generalize nmV (tP s).1 = t at *
    generalize nmV (zP s).1 = z at *
    generalize (q2 s).1 = u at *
    generalize pOut (q1 s).1 = m at *
    obtain ⟨acc, w⟩ := q
    simp only at hq hR ⊢
    obtain ⟨⟨f, f1, f2⟩, f3⟩ := hq
    cases h1 : decide (w = []) with
    | false =>
      have h1' := of_decide_eq_false h1
      obtain ⟨w1, w2, w3⟩ := cutW 0 h1'
      have hxl := exP_w (cut w [0]).1
      obtain ⟨y1, y2⟩ := cutl1' (cut w [0]).1 [58]
      have hal : ∀ x, (acc.map exV ++ [x]).length = acc.length + 1 := by intro x; simp
      have hal2 : ∀ x, (acc ++ [x]).length = acc.length + 1 := by intro x; simp
      have hst : gEx f w = exP (cut w [0]).1 :: gEx (f - 1) (cut w [0]).2.1 := by
        obtain ⟨k, rfl⟩ : ∃ k, f = k + 1 := ⟨f - 1, by omega⟩
        rw [gEx, if_neg h1']; rfl
      have hel := exWt_len acc
      simp only [b_rgpar_0, hpG, chg0, h1, phiRG_1, phiRG_2, phiRG_3, phiRG_4, phiRG_5, phiRG_6, runtilS, rparseS, rnumberS, rbackS, rgrightS, rgprnS, rOut_eq, chu_0, chu_10, chu_32, chu_58, go_sem, Nat.reduceDiv, Nat.reduceMod, ↓reduceIte, Nat.reduceEqDiff, Nat.reduceBEq, Nat.reduceSub, Nat.reduceLT, Nat.reduceAdd, Nat.reduceLeDiff, reduceCtorEq, Int.reduceEq, Int.reduceNe, Int.reduceLT, Int.reduceLE, Int.reduceToNat]
      (repeat' apply And.intro)
      all_goals first | omega | (rw [hal]; (first | omega | (simp only [lenOk, bytesOk, inI, IntKind.bits, List.length_append, Bs_len, List.length_cons, List.length_nil, List.length_map, List.length_take, List.length_drop, List.length_replicate]; omega))) | skip
      refine hR _ (acc ++ [exP (cut w [0]).1], (cut w [0]).2.1) ⟨⟨f - 1, by simp only; omega, ?_⟩, ?_⟩ (by simp only; omega) ?_
      · simp only; rw [← f2, hst]; simp
      · simp only [exWt_app]; omega
      · simp only [hpG, hal2, List.map_append, List.map_cons, List.map_nil]; rfl
    | true =>
      have h1' := of_decide_eq_true h1
      subst h1'
      have f2 : acc = gEx (M.length + 1) M := by rw [← f2]; cases f <;> simp [gEx]
      rw [← f2] at hG
      have hel := exWt_len acc
      have hem := exWt_mem acc
      have hes := exsT_w acc
      simp only [List.length_nil] at f3
      simp only [b_rgpar_0, hpG, chg0, h1, phiRG_1, phiRG_2, phiRG_3, phiRG_4, phiRG_5, phiRG_6, runtilS, rparseS, rnumberS, rbackS, rgrightS, rgprnS, rOut_eq, chu_0, chu_10, chu_32, chu_58, go_sem, Nat.reduceDiv, Nat.reduceMod, ↓reduceIte, Nat.reduceEqDiff, Nat.reduceBEq, Nat.reduceSub, Nat.reduceLT, Nat.reduceAdd, Nat.reduceLeDiff, reduceCtorEq, Int.reduceEq, Int.reduceNe, Int.reduceLT, Int.reduceLE, Int.reduceToNat]
      clear hR R
      refine loop2P [] [0, 2, 4, 6] [0, 1, 2, 3] (fun q : List (List UInt8) × List UInt8 => ⟨[(0, .str s), (2, .ref 0 0 0), (4, .ref 1 0 0), (6, .str q.2)], hpG m u t z acc q.1⟩)
        (fun q => (∃ f, q.2.length < f ∧ q.1 ++ (gFiles f q.2).1 = (gFiles (N.length + 1) N).1 ∧ (gFiles f q.2).2 = (gFiles (N.length + 1) N).2) ∧ sumL q.1 + q.1.length + 2 * q.2.length ≤ 20000) (fun q => q.2.length) ([], N) (by rfl) ⟨⟨_, Nat.lt_succ_self _, rfl, rfl⟩, by simp only [sumL, List.map_nil, List.sum_nil, List.length_nil]; omega⟩ ⟨rfl, by rfl⟩ (fun q hq R hR => ?_)
      obtain ⟨fl, w⟩ := q
      simp only at hq hR ⊢
      obtain ⟨⟨f', g1, g2, g4⟩, g3⟩ := hq
      have hfm := sumL_mem fl
      obtain ⟨k, rfl⟩ : ∃ k, f' = k + 1 := ⟨f' - 1, by omega⟩
      cases w with
      | nil =>
        rw [show (gFiles (k + 1) []).1 = [] from rfl, List.append_nil] at g2
        rw [show (gFiles (k + 1) []).2 = [] from rfl] at g4
        rw [← g2, ← g4, List.drop_nil] at hG
        have hdn : decide (([] : List UInt8) = []) = true := rfl
        have hD : ([] : List UInt8).length ≤ 10000 := Nat.zero_le _
        simp only [List.length_nil] at g3
        have hDl : ([] : List UInt8).length ≤ 10000 := Nat.zero_le _
        rw [hG] at hs
        have hsz : sizeH ⟨m, u, t, z, acc, fl, ([] : List UInt8)⟩ := ⟨b6, by simp only; omega, by simp only; omega, by simp only; omega, fun x hx => by have := hem x hx; omega, fun f hf => by have := hfm f hf; omega, by simp only; omega, by simp only; omega, by simp only; omega, b4, b5⟩
        cases hri : rightH ⟨m, u, t, z, acc, fl, ([] : List UInt8)⟩ with
        | false =>
          rw [hri, Bool.false_and] at hs
          unfold rgparR at hs
          simp only [Bool.false_eq_true, if_false] at hs
          injection hs with hs
          rw [← hs]
          simp only [b_rgpar_1, t_rgpar_0, r_rgpar, hpG, chg0, hdn, phiRG_1, phiRG_2, phiRG_3, phiRG_4, phiRG_5, phiRG_6, runtilS, rparseS, rnumberS, rbackS, rgrightS, rgprnS, rOut_eq, chu_0, chu_10, chu_32, chu_58, unV_U, unEx_map, unS_map, List.length_map, hri, go_sem, Nat.reduceDiv, Nat.reduceMod, ↓reduceIte, Nat.reduceEqDiff, Nat.reduceBEq, Nat.reduceSub, Nat.reduceLT, Nat.reduceAdd, Nat.reduceLeDiff, reduceCtorEq, Int.reduceEq, Int.reduceNe, Int.reduceLT, Int.reduceLE, Int.reduceToNat]
          (repeat' apply And.intro); all_goals first | exact hsz | omega | (simp only; omega) | exact b6 | exact b4.1 | exact b4.2 | exact b5.1 | exact b5.2 | exact hsz.2.2.2.2.1 | exact hsz.2.2.2.2.2.1 | exact .inl trivial | rfl | exact fun x hx => (by have := hem x hx; omega) | exact fun f hf => (by have := hfm f hf; omega) | skip
        | true =>
          rw [hri, Bool.true_and] at hs
          cases hbb : decide (bodyH ⟨m, u, t, z, acc, fl, ([] : List UInt8)⟩ = s) with
          | false =>
            rw [hbb] at hs
            unfold rgparR at hs
            simp only [Bool.false_eq_true, if_false] at hs
            injection hs with hs
            rw [← hs]
            simp only [b_rgpar_1, t_rgpar_0, r_rgpar, hpG, chg0, hdn, phiRG_1, phiRG_2, phiRG_3, phiRG_4, phiRG_5, phiRG_6, runtilS, rparseS, rnumberS, rbackS, rgrightS, rgprnS, rOut_eq, chu_0, chu_10, chu_32, chu_58, unV_U, unEx_map, unS_map, List.length_map, hri, hbb, go_sem, Nat.reduceDiv, Nat.reduceMod, ↓reduceIte, Nat.reduceEqDiff, Nat.reduceBEq, Nat.reduceSub, Nat.reduceLT, Nat.reduceAdd, Nat.reduceLeDiff, reduceCtorEq, Int.reduceEq, Int.reduceNe, Int.reduceLT, Int.reduceLE, Int.reduceToNat]
            (repeat' apply And.intro); all_goals first | exact hsz | omega | (simp only; omega) | exact b6 | exact b4.1 | exact b4.2 | exact b5.1 | exact b5.2 | exact hsz.2.2.2.2.1 | exact hsz.2.2.2.2.2.1 | exact .inl trivial | rfl | exact fun x hx => (by have := hem x hx; omega) | exact fun f hf => (by have := hfm f hf; omega) | skip
          | true =>
            rw [hbb] at hs
            unfold rgparR at hs
            simp only [if_true] at hs
            injection hs with hs
            rw [← hs]
            simp only [b_rgpar_1, t_rgpar_0, r_rgpar, hpG, chg0, hdn, phiRG_1, phiRG_2, phiRG_3, phiRG_4, phiRG_5, phiRG_6, runtilS, rparseS, rnumberS, rbackS, rgrightS, rgprnS, rOut_eq, chu_0, chu_10, chu_32, chu_58, unV_U, unEx_map, unS_map, List.length_map, hri, hbb, go_sem, Nat.reduceDiv, Nat.reduceMod, ↓reduceIte, Nat.reduceEqDiff, Nat.reduceBEq, Nat.reduceSub, Nat.reduceLT, Nat.reduceAdd, Nat.reduceLeDiff, reduceCtorEq, Int.reduceEq, Int.reduceNe, Int.reduceLT, Int.reduceLE, Int.reduceToNat]
            (repeat' apply And.intro); all_goals first | exact hsz | omega | (simp only; omega) | exact b6 | exact b4.1 | exact b4.2 | exact b5.1 | exact b5.2 | exact hsz.2.2.2.2.1 | exact hsz.2.2.2.2.2.1 | exact .inl trivial | rfl | exact fun x hx => (by have := hem x hx; omega) | exact fun f hf => (by have := hfm f hf; omega) | skip
      | cons x l =>
        have hdn : decide (x :: l = []) = false := rfl
        have hat : at8 (x :: l) 0 = ((x.toNat : Nat) : Int) := rfl
        have g5 : decide (((x.toNat : Nat) : Int) = 10) = decide (x = 10) := u8_eq x 10
        cases hx : decide (x = 10) with
        | true =>
          have hx' := of_decide_eq_true hx
          have hgf : gFiles (k + 1) (x :: l) = ([], x :: l) := by rw [gFiles, if_pos (.inr (by rw [hx']; rfl))]
          rw [hgf, List.append_nil] at g2
          rw [hgf] at g4
          rw [← g2, ← g4, List.drop_succ_cons, List.drop_zero] at hG
          have hDl : l.length ≤ 10000 := by simp only [List.length_cons] at g3; omega
          have hl1 : 0 < (x :: l).length := by simp
          have htk : (x :: l).take (x :: l).length = x :: l := List.take_length
          have hdr : (x :: l).drop 1 = l := rfl
          generalize hw : x :: l = w at *
          generalize hDD : l = D at *
          rw [hG] at hs
          have hsz : sizeH ⟨m, u, t, z, acc, fl, D⟩ := ⟨b6, by simp only; omega, by simp only; omega, by simp only; omega, fun x hx => by have := hem x hx; omega, fun f hf => by have := hfm f hf; omega, by simp only; omega, by simp only; omega, by simp only; omega, b4, b5⟩
          cases hri : rightH ⟨m, u, t, z, acc, fl, D⟩ with
          | false =>
            rw [hri, Bool.false_and] at hs
            unfold rgparR at hs
            simp only [Bool.false_eq_true, if_false] at hs
            injection hs with hs
            rw [← hs]
            simp only [b_rgpar_1, t_rgpar_0, r_rgpar, hpG, chg0, hdn, hat, g5, hx, htk, hdr, phiRG_1, phiRG_2, phiRG_3, phiRG_4, phiRG_5, phiRG_6, runtilS, rparseS, rnumberS, rbackS, rgrightS, rgprnS, rOut_eq, chu_0, chu_10, chu_32, chu_58, unV_U, unEx_map, unS_map, List.length_map, hri, go_sem, Nat.reduceDiv, Nat.reduceMod, ↓reduceIte, Nat.reduceEqDiff, Nat.reduceBEq, Nat.reduceSub, Nat.reduceLT, Nat.reduceAdd, Nat.reduceLeDiff, reduceCtorEq, Int.reduceEq, Int.reduceNe, Int.reduceLT, Int.reduceLE, Int.reduceToNat]
            (repeat' apply And.intro); all_goals first | exact hsz | omega | (simp only; omega) | exact b6 | exact b4.1 | exact b4.2 | exact b5.1 | exact b5.2 | exact hsz.2.2.2.2.1 | exact hsz.2.2.2.2.2.1 | exact .inl trivial | rfl | exact fun x hx => (by have := hem x hx; omega) | exact fun f hf => (by have := hfm f hf; omega) | skip
          | true =>
            rw [hri, Bool.true_and] at hs
            cases hbb : decide (bodyH ⟨m, u, t, z, acc, fl, D⟩ = s) with
            | false =>
              rw [hbb] at hs
              unfold rgparR at hs
              simp only [Bool.false_eq_true, if_false] at hs
              injection hs with hs
              rw [← hs]
              simp only [b_rgpar_1, t_rgpar_0, r_rgpar, hpG, chg0, hdn, hat, g5, hx, htk, hdr, phiRG_1, phiRG_2, phiRG_3, phiRG_4, phiRG_5, phiRG_6, runtilS, rparseS, rnumberS, rbackS, rgrightS, rgprnS, rOut_eq, chu_0, chu_10, chu_32, chu_58, unV_U, unEx_map, unS_map, List.length_map, hri, hbb, go_sem, Nat.reduceDiv, Nat.reduceMod, ↓reduceIte, Nat.reduceEqDiff, Nat.reduceBEq, Nat.reduceSub, Nat.reduceLT, Nat.reduceAdd, Nat.reduceLeDiff, reduceCtorEq, Int.reduceEq, Int.reduceNe, Int.reduceLT, Int.reduceLE, Int.reduceToNat]
              (repeat' apply And.intro); all_goals first | exact hsz | omega | (simp only; omega) | exact b6 | exact b4.1 | exact b4.2 | exact b5.1 | exact b5.2 | exact hsz.2.2.2.2.1 | exact hsz.2.2.2.2.2.1 | exact .inl trivial | rfl | exact fun x hx => (by have := hem x hx; omega) | exact fun f hf => (by have := hfm f hf; omega) | skip
            | true =>
              rw [hbb] at hs
              unfold rgparR at hs
              simp only [if_true] at hs
              injection hs with hs
              rw [← hs]
              simp only [b_rgpar_1, t_rgpar_0, r_rgpar, hpG, chg0, hdn, hat, g5, hx, htk, hdr, phiRG_1, phiRG_2, phiRG_3, phiRG_4, phiRG_5, phiRG_6, runtilS, rparseS, rnumberS, rbackS, rgrightS, rgprnS, rOut_eq, chu_0, chu_10, chu_32, chu_58, unV_U, unEx_map, unS_map, List.length_map, hri, hbb, go_sem, Nat.reduceDiv, Nat.reduceMod, ↓reduceIte, Nat.reduceEqDiff, Nat.reduceBEq, Nat.reduceSub, Nat.reduceLT, Nat.reduceAdd, Nat.reduceLeDiff, reduceCtorEq, Int.reduceEq, Int.reduceNe, Int.reduceLT, Int.reduceLE, Int.reduceToNat]
              (repeat' apply And.intro); all_goals first | exact hsz | omega | (simp only; omega) | exact b6 | exact b4.1 | exact b4.2 | exact b5.1 | exact b5.2 | exact hsz.2.2.2.2.1 | exact hsz.2.2.2.2.2.1 | exact .inl trivial | rfl | exact fun x hx => (by have := hem x hx; omega) | exact fun f hf => (by have := hfm f hf; omega) | skip
        | false =>
          have hx' := of_decide_eq_false hx
          have hgf : gFiles (k + 1) (x :: l) = ((cut (x :: l) [10]).1 :: (gFiles k (cut (x :: l) [10]).2.1).1, (gFiles k (cut (x :: l) [10]).2.1).2) := by
            rw [gFiles, if_neg (by rintro (h | h); · cases h
                                   · injection h with h; exact hx' h)]
          rw [hgf] at g2 g4
          obtain ⟨w1, w2, w3⟩ := cutW 10 (m := x :: l) (by simp)
          have hl1 : 0 < (x :: l).length := by simp
          have hal : ∀ x, (fl.map AV.str ++ [x]).length = fl.length + 1 := by intro x; simp
          have hal2 : ∀ x, (fl ++ [x]).length = fl.length + 1 := by intro x; simp
          generalize hw : x :: l = w at *
          simp only [b_rgpar_1, hpG, chg0, hdn, hat, g5, hx, phiRG_1, phiRG_2, phiRG_3, phiRG_4, phiRG_5, phiRG_6, runtilS, rparseS, rnumberS, rbackS, rgrightS, rgprnS, rOut_eq, chu_0, chu_10, chu_32, chu_58, go_sem, Nat.reduceDiv, Nat.reduceMod, ↓reduceIte, Nat.reduceEqDiff, Nat.reduceBEq, Nat.reduceSub, Nat.reduceLT, Nat.reduceAdd, Nat.reduceLeDiff, reduceCtorEq, Int.reduceEq, Int.reduceNe, Int.reduceLT, Int.reduceLE, Int.reduceToNat]
          (repeat' apply And.intro)
          all_goals first | omega | (rw [hal]; (first | omega | (simp only [lenOk, bytesOk, inI, IntKind.bits, List.length_append, Bs_len, List.length_cons, List.length_nil, List.length_map, List.length_take, List.length_drop, List.length_replicate]; omega))) | skip
          refine hR _ (fl ++ [(cut w [10]).1], (cut w [10]).2.1) ⟨⟨k, by simp only; omega, by rw [← g2]; simp, g4⟩, by simp only [sumL_app, List.length_append, List.length_cons, List.length_nil]; omega⟩ (by simp only; omega) ?_
          simp only [hpG, hal2, List.map_append, List.map_cons, List.map_nil]; rfl
  · cases hs
end Go.Proofs.YtfabdnpeohpgnaaGreatDoor
namespace Go.Proofs.YtfabdnpeohpgnaaGreatDoor
set_option linter.all false
open Go.RowKit
open Go.Lib (index hasPrefix trimPrefix cut indexAny itoa)
def gparR (c : ChgL) (ok : Bool) (pr : Prop) : Option Ret :=
  if ok = true then some ⟨.tup [.agg [(20, .blob (c.man.map U)), (1, .str c.user), (1, .int .i64 c.time), (1, .int .i64 c.zone), (1, .own 0 c.extras.length), (1, .own 1 c.files.length), (1, .str c.desc)], .int .i64 0], [.row 48 2 c.extras.length (c.extras.map exV), .row 9 1 c.files.length (c.files.map AV.str)], pr⟩
  else some ⟨.tup [.agg [(20, .blob (List.replicate 20 (.int .u8 0))), (1, .str []), (1, .int .i64 0), (1, .int .i64 0), (1, .con (.slice none 0 0)), (1, .con (.slice none 0 0)), (1, .str [])], .int .i64 4], [], pr⟩
noncomputable def gparS : Spec := fun xs hp => match xs, hp with
  | [.sl 1 bs], [] => gparR (chgC (unB bs)) (chgB (unB bs)) (bs = Bs (unB bs) ∧ bs.length ≤ 1000000)
  | _, _ => none
theorem gparR_pre {c : ChgL} {ok : Bool} {pr : Prop} {r : Ret} (h : gparR c ok pr = some r) (hr : r.pre) : pr := by
  unfold gparR at h
  split at h <;> (injection h with h; subst h; exact hr)
noncomputable def phiGR2 : Phi := phiL [(25, [], glineS), (24, [], parseS), (26, [], cutS), (27, [], gnumS), (28, [], gexsS), (14, [], grightS)]
theorem phiGR2_ok : PhiOk Tryz.prog phiGR2 := phi_cons gline_ok (by kernel_rfl) (phi_cons parse_ok (by kernel_rfl) (phi_cons cut_ok (by kernel_rfl) (phi_cons gnum_ok (by kernel_rfl) (phi_cons gexs_ok (by kernel_rfl) (phi_cons gright_ok (by kernel_rfl) phi_nil)))))
theorem phiGR2_1 : phiGR2 25 = some ([], glineS) := rfl
theorem phiGR2_2 : phiGR2 24 = some ([], parseS) := rfl
theorem phiGR2_3 : phiGR2 26 = some ([], cutS) := rfl
theorem phiGR2_4 : phiGR2 27 = some ([], gnumS) := rfl
theorem phiGR2_5 : phiGR2 28 = some ([], gexsS) := rfl
theorem phiGR2_6 : phiGR2 14 = some ([], grightS) := rfl
def gst (m u : List UInt8) (t z e : Int) (es : List ExL) (x : List UInt8 × Bool × List (List UInt8)) : St :=
  ⟨[(2, .ref 0 0 0), (3, .int .i64 0), (4, .ref 1 0 0), (6, .int .i64 e), (7, .ref 2 0 0)],
    [.cells 30 [(20, .blob (List.replicate 20 (.int .u8 0))), (1, .str []), (1, .int .i64 0), (1, .int .i64 0), (1, .con (.slice none 0 0)), (1, .con (.slice none 0 0)), (1, .str [])],
      .cells 60 [(1, .str x.1), (1, .bool x.2.1)],
      .cells 30 [(20, .blob (m.map U)), (1, .str u), (1, .int .i64 t), (1, .int .i64 z), (1, .own 3 es.length), (1, .own 4 x.2.2.length), (1, .str [])],
      .row 48 2 es.length (es.map exV), .row 9 1 x.2.2.length (x.2.2.map AV.str)]⟩
set_option maxHeartbeats 4000000 in
theorem gpar_loop {m u : List UInt8} {t z e : Int} {es : List ExL} {s0 : List UInt8} {b0 : Bool} {s2 : S2} {nils : List (Nat × TypeId × Nat)} {ids : List Nat} {r : Ret} {pr : Prop} (hn : nodupB ids = true) (hl5 : ids.length = 5) (hk : ent nils [2, 3, 4, 6, 7] ids (toS s2) = some (gst m u t z e es (s0, b0, [])))
    (p1 : s0.length ≤ 1000000) (p2 : u.length ≤ 1000000) (p3 : es.length ≤ 1000000) (p4 : inI t) (p5 : inI z) (p6 : m.length = 20) (p7 : ∀ x ∈ es, x.1.length ≤ 1000000)
    (hr : r = (gparR ⟨m, u, t, z, es, (filesG (s0.length + 1) s0 b0 []).2.2, (filesG (s0.length + 1) s0 b0 []).1⟩ (decide (e = 0) && !(filesG (s0.length + 1) s0 b0 []).2.1 && rightH ⟨m, u, t, z, es, (filesG (s0.length + 1) s0 b0 []).2.2, (filesG (s0.length + 1) s0 b0 []).1⟩) pr).getD ⟨.tup [], [], True⟩) :
    loopQ2 0 (awp2 phiGR2 0 b_gpar_0) (inQ2 0 (thenQ2 (awp2 phiGR2 0 t_gpar_0 (retQ2 r_gpar 0 r)) (retQ2 r_gpar 0 r))) s2 := by
  refine loop2P nils [2, 3, 4, 6, 7] ids (gst m u t z e es) (fun x => (∃ f, x.1.length < f ∧ filesG f x.1 x.2.1 x.2.2 = filesG (s0.length + 1) s0 b0 []) ∧ x.1.length ≤ 1000000 ∧ x.2.2.length + x.1.length ≤ 1000000 ∧ (∀ g ∈ x.2.2, g.length ≤ 1000000)) (fun x => x.1.length) (s0, b0, []) hk ⟨⟨_, Nat.lt_succ_self _, rfl⟩, p1, by simpa using p1, by simp⟩ ⟨hn, by rfl⟩ (fun x hx R hR => ?_)
  obtain ⟨s, bd, acc⟩ := x
  obtain ⟨⟨f, f1, f2⟩, g1, g2, g3⟩ := hx
  simp only at f1 f2 g1 g2 g3
  cases bd with
  | true =>
    rw [filesG_true] at f2
    rw [← f2] at hr
    simp only [gst, b_gpar_0, go_sem, Nat.reduceDiv, Nat.reduceMod, ↓reduceIte, Nat.reduceEqDiff, Nat.reduceBEq, Nat.reduceSub, Nat.reduceLT, Nat.reduceAdd, Nat.reduceLeDiff, reduceCtorEq, Int.reduceEq, Int.reduceNe, Int.reduceLT, Int.reduceLE, Int.reduceToNat]
    cases he : decide (e = 0) with
    | false =>
      simp only [t_gpar_0, r_gpar, he, phiGR2_6, grightS, go_sem, Nat.reduceDiv, Nat.reduceMod, ↓reduceIte, Nat.reduceEqDiff, Nat.reduceBEq, Nat.reduceSub, Nat.reduceLT, Nat.reduceAdd, Nat.reduceLeDiff, reduceCtorEq, Int.reduceEq, Int.reduceNe, Int.reduceLT, Int.reduceLE, Int.reduceToNat]
      subst hr; rw [he]; exact ⟨rfl, rfl⟩
    | true =>
      simp only [t_gpar_0, r_gpar, he, phiGR2_6, grightS, go_sem, Nat.reduceDiv, Nat.reduceMod, ↓reduceIte, Nat.reduceEqDiff, Nat.reduceBEq, Nat.reduceSub, Nat.reduceLT, Nat.reduceAdd, Nat.reduceLeDiff, reduceCtorEq, Int.reduceEq, Int.reduceNe, Int.reduceLT, Int.reduceLE, Int.reduceToNat]
      subst hr; rw [he]; exact ⟨rfl, rfl⟩
  | false =>
    cases h1 : decide ((cut s [10]).1 = []) with
    | true =>
      have h1' := of_decide_eq_true h1
      have hs0 : filesG f s false acc = ((cut s [10]).2.1, !(cut s [10]).2.2, acc) := by
        obtain ⟨k, rfl⟩ : ∃ k, f = k + 1 := ⟨f - 1, by omega⟩
        rw [filesG, if_neg (by simp), if_pos h1']
      rw [← f2, hs0] at hr
      simp only at hr
      have hcl := cutl1' s [10]
      simp only [gst, b_gpar_0, h1, phiGR2_1, glineS, go_sem, Nat.reduceDiv, Nat.reduceMod, ↓reduceIte, Nat.reduceEqDiff, Nat.reduceBEq, Nat.reduceSub, Nat.reduceLT, Nat.reduceAdd, Nat.reduceLeDiff, reduceCtorEq, Int.reduceEq, Int.reduceNe, Int.reduceLT, Int.reduceLE, Int.reduceToNat]
      refine ⟨by omega, ?_⟩
      cases he : decide (e = 0) with
      | false =>
        simp only [t_gpar_0, r_gpar, he, phiGR2_6, grightS, go_sem, Nat.reduceDiv, Nat.reduceMod, ↓reduceIte, Nat.reduceEqDiff, Nat.reduceBEq, Nat.reduceSub, Nat.reduceLT, Nat.reduceAdd, Nat.reduceLeDiff, reduceCtorEq, Int.reduceEq, Int.reduceNe, Int.reduceLT, Int.reduceLE, Int.reduceToNat]
        subst hr; rw [he]; exact ⟨rfl, rfl⟩
      | true =>
        cases h2 : (cut s [10]).2.2 with
        | false =>
          simp only [t_gpar_0, r_gpar, he, phiGR2_6, grightS, go_sem, Nat.reduceDiv, Nat.reduceMod, ↓reduceIte, Nat.reduceEqDiff, Nat.reduceBEq, Nat.reduceSub, Nat.reduceLT, Nat.reduceAdd, Nat.reduceLeDiff, reduceCtorEq, Int.reduceEq, Int.reduceNe, Int.reduceLT, Int.reduceLE, Int.reduceToNat]
          subst hr; rw [he, h2]; exact ⟨rfl, rfl⟩
        | true =>
          cases hR : rightH ⟨m, u, t, z, es, acc, (cut s [10]).2.1⟩ with
          | false =>
            simp only [t_gpar_0, r_gpar, he, hR, phiGR2_6, grightS, unV_U, unEx_map, unS_map, List.length_map, go_sem, Nat.reduceDiv, Nat.reduceMod, ↓reduceIte, Nat.reduceEqDiff, Nat.reduceBEq, Nat.reduceSub, Nat.reduceLT, Nat.reduceAdd, Nat.reduceLeDiff, reduceCtorEq, Int.reduceEq, Int.reduceNe, Int.reduceLT, Int.reduceLE, Int.reduceToNat]
            subst hr; rw [he, h2, hR]
            exact ⟨⟨Or.inl trivial, Or.inl trivial, p3, by omega, fun x hx => by have := p7 x hx; omega, fun f hf => by have := g3 f hf; omega, p2⟩, rfl, rfl⟩
          | true =>
            simp only [t_gpar_0, r_gpar, he, hR, phiGR2_6, grightS, unV_U, unEx_map, unS_map, List.length_map, go_sem, Nat.reduceDiv, Nat.reduceMod, ↓reduceIte, Nat.reduceEqDiff, Nat.reduceBEq, Nat.reduceSub, Nat.reduceLT, Nat.reduceAdd, Nat.reduceLeDiff, reduceCtorEq, Int.reduceEq, Int.reduceNe, Int.reduceLT, Int.reduceLE, Int.reduceToNat]
            subst hr; rw [he, h2, hR]
            exact ⟨⟨Or.inl trivial, Or.inl trivial, p3, by omega, fun x hx => by have := p7 x hx; omega, fun f hf => by have := g3 f hf; omega, p2⟩, rfl, rfl⟩
    | false =>
      have h1' := of_decide_eq_false h1
      have hs0 : filesG f s false acc = filesG (f - 1) (cut s [10]).2.1 (!(cut s [10]).2.2) (acc ++ [(cut s [10]).1]) := by
        obtain ⟨k, rfl⟩ : ∃ k, f = k + 1 := ⟨f - 1, by omega⟩
        rw [filesG, if_neg (by simp), if_neg h1']; rfl
      have hlt : (cut s [10]).2.1.length + (cut s [10]).1.length ≤ s.length ∧ (cut s [10]).2.1.length < s.length := by
        cases h2 : (cut s [10]).2.2 with
        | true =>
          have e := congrArg List.length (cut1_t h2)
          simp only [List.length_append, List.length_cons] at e
          omega
        | false =>
          obtain ⟨k1, k2⟩ := cut_f h2
          rw [k1] at h1'
          have : 0 < s.length := List.length_pos_iff.2 h1'
          rw [k1, k2]; simp only [List.length_nil]; omega
      have hal : (acc ++ [(cut s [10]).1]).length = acc.length + 1 := by simp
      simp only [gst, b_gpar_0, h1, phiGR2_1, glineS, go_sem, Nat.reduceDiv, Nat.reduceMod, ↓reduceIte, Nat.reduceEqDiff, Nat.reduceBEq, Nat.reduceSub, Nat.reduceLT, Nat.reduceAdd, Nat.reduceLeDiff, reduceCtorEq, Int.reduceEq, Int.reduceNe, Int.reduceLT, Int.reduceLE, Int.reduceToNat]
      refine ⟨by omega, ⟨by (first | omega | (simp only [lenOk, bytesOk, inI, IntKind.bits, List.length_append, Bs_len, List.length_cons, List.length_nil, List.length_map, List.length_take, List.length_drop, List.length_replicate]; omega)), by (first | omega | (simp only [lenOk, bytesOk, inI, IntKind.bits, List.length_append, Bs_len, List.length_cons, List.length_nil, List.length_map, List.length_take, List.length_drop, List.length_replicate]; omega))⟩, hR _ ((cut s [10]).2.1, !(cut s [10]).2.2, acc ++ [(cut s [10]).1]) ⟨⟨f - 1, by simp only; omega, by rw [← f2, hs0]⟩, by simp only; omega, by simp only [hal]; omega, fun g hg => ?_⟩ hlt.2 ?_⟩
      · rcases List.mem_append.1 hg with hg | hg
        · exact g3 g hg
        · rw [List.mem_singleton.1 hg]; omega
      · simp only [gst, hal, hl5, List.map_append, List.map_cons, List.map_nil]
        rfl
end Go.Proofs.YtfabdnpeohpgnaaGreatDoor
namespace Go.Proofs.YtfabdnpeohpgnaaGreatDoor
set_option linter.all false
open Go.RowKit
open Go.Lib (index hasPrefix trimPrefix cut indexAny itoa)
theorem nmV_in (s : List UInt8) : inI (nmV s) := by
  have h1 := decN_lt s
  have h2 := decN_lt (s.drop 1)
  unfold nmV inI
  split <;> constructor <;> omega
theorem goodQ_err (l : List UInt8) : decide (pErr l = 0) = goodQ l := by
  unfold pErr
  cases goodQ l <;> rfl
set_option maxHeartbeats 8000000 in
theorem gpar_ok : FnOk Tryz.prog 12 gparS := by
  refine fn_slim2A Tryz.func12 s_gpar phiGR2_ok ?_
  intro xs hp r hs hp'
  unfold gparS at hs
  split at hs
  · rename_i bs
    obtain ⟨q1', q2'⟩ := gparR_pre hs hp'
    generalize unB bs = b at *
    subst q1'
    rw [Bs_len] at q2'
    refine ⟨len_le (by kernel_rfl), ?_⟩
    have hr : r = (gparR (chgC b) (chgB b) (Bs b = Bs b ∧ (Bs b).length ≤ 1000000)).getD ⟨.tup [], [], True⟩ := by rw [hs]; rfl
    obtain ⟨a1, a2⟩ := cutl1' b [10]
    obtain ⟨a3, a4⟩ := cutl1' (cut b [10]).2.1 [10]
    obtain ⟨a5, a6⟩ := cutl1' (cut (cut b [10]).2.1 [10]).2.1 [10]
    obtain ⟨a7, a8⟩ := cutl1' (cut (cut (cut b [10]).2.1 [10]).2.1 [10]).1 [32]
    obtain ⟨a9, a10⟩ := cutl1' (cut (cut (cut (cut b [10]).2.1 [10]).2.1 [10]).1 [32]).2.1 [32]
    have p1 : b.length < 4294967281 := by omega
    have p2 : (cut b [10]).1.length ≤ 1000000000 := by omega
    have p3 : (cut b [10]).2.1.length < 4294967281 := by omega
    have P1 := eq_true p1
    have P2 := eq_true p2
    have P3 := eq_true p3
    have hl20 : (pOut (cut b [10]).1).length = 20 := pOut_len _
    cases hz : (zP b).2.2 with
    | true =>
      have hbd : badH b = (bad0 b || (psl 0 (zP b).2.1).any fun o => !exOk o) := by unfold badH; rw [hz, Bool.true_and]
      have hex : exsP b = (psl 0 (zP b).2.1).map exP := by unfold exsP; rw [if_pos hz]
      have hz' := hz
      unfold zP tP q3 q2 q1 at hz
      simp (config := { maxSteps := 8000000 }) only [c_gpar, hz, phiGR2_1, phiGR2_2, phiGR2_3, phiGR2_4, phiGR2_5, phiGR2_6, glineS, parseS, cutS, gnumS, gexsS, P1, P2, P3, hl20, unB_Bs, any2, allD2, nextA2, stepA2, runT, Nat.reduceAnd, Nat.reduceOr, Nat.reducePow, go_sem, Nat.reduceDiv, Nat.reduceMod, ↓reduceIte, Nat.reduceEqDiff, Nat.reduceBEq, Nat.reduceSub, Nat.reduceLT, Nat.reduceAdd, Nat.reduceLeDiff, reduceCtorEq, Int.reduceEq, Int.reduceNe, Int.reduceLT, Int.reduceLE, Int.reduceToNat]
      refine ⟨by omega, by omega, by omega, by omega, by omega, by omega, ?_⟩
      refine gpar_loop (pr := Bs b = Bs b ∧ (Bs b).length ≤ 1000000) (m := pOut (q1 b).1) (u := (q2 b).1) (t := nmV (tP b).1) (z := nmV (zP b).1) (e := pErr (q1 b).1) (es := exsP b) (s0 := (q3 b).2.1) (b0 := badH b) (nils := [(4293, 9, 1)]) (ids := [0, 1, 3, 4, 5]) (by rfl) rfl ?_ ?_ ?_ ?_ ?_ ?_ hl20 ?_ ?_
      · rw [hbd, hex]; simp only [gst, List.length_map]; rfl
      · unfold q3 q2 q1; omega
      · unfold q2 q1; omega
      · rw [hex, List.length_map]
        have := psl_join_len 0 (zP b).2.1
        have ht := congrArg List.length (cut1_t (s := (tP b).2.1) (c := 32) hz')
        rw [List.length_append, List.length_cons] at ht
        unfold zP at this ⊢
        unfold tP q3 q2 q1 at this ht ⊢; omega
      · exact nmV_in _
      · exact nmV_in _
      · intro x hx
        rw [hex] at hx
        obtain ⟨o, ho, rfl⟩ := List.mem_map.1 hx
        have h1 := psl_mem_len 0 _ o ho
        have h2 := (cutl1' o [58]).1
        unfold zP tP q3 q2 q1 at h1
        show (cut o [58]).1.length ≤ 1000000
        omega
      · rw [hr, goodQ_err]; rfl
    | false =>
      have hbd : badH b = bad0 b := by unfold badH; rw [hz, Bool.false_and, Bool.or_false]
      have hex : exsP b = [] := by unfold exsP; rw [if_neg (by rw [hz]; simp)]
      have hz' := hz
      unfold zP tP q3 q2 q1 at hz
      simp (config := { maxSteps := 8000000 }) only [c_gpar, hz, phiGR2_1, phiGR2_2, phiGR2_3, phiGR2_4, phiGR2_5, phiGR2_6, glineS, parseS, cutS, gnumS, gexsS, P1, P2, P3, hl20, unB_Bs, any2, allD2, nextA2, stepA2, runT, Nat.reduceAnd, Nat.reduceOr, Nat.reducePow, go_sem, Nat.reduceDiv, Nat.reduceMod, ↓reduceIte, Nat.reduceEqDiff, Nat.reduceBEq, Nat.reduceSub, Nat.reduceLT, Nat.reduceAdd, Nat.reduceLeDiff, reduceCtorEq, Int.reduceEq, Int.reduceNe, Int.reduceLT, Int.reduceLE, Int.reduceToNat]
      refine ⟨by omega, by omega, by omega, by omega, by omega, ?_⟩
      refine gpar_loop (pr := Bs b = Bs b ∧ (Bs b).length ≤ 1000000) (m := pOut (q1 b).1) (u := (q2 b).1) (t := nmV (tP b).1) (z := nmV (zP b).1) (e := pErr (q1 b).1) (es := exsP b) (s0 := (q3 b).2.1) (b0 := badH b) (nils := [(4292, 48, 2), (4293, 9, 1)]) (ids := [0, 1, 3, 4, 5]) (by rfl) rfl ?_ ?_ ?_ ?_ ?_ ?_ hl20 ?_ ?_
      · rw [hbd, hex]; simp only [gst, List.length_nil, List.map_nil]; rfl
      · unfold q3 q2 q1; omega
      · unfold q2 q1; omega
      · rw [hex]; simp
      · exact nmV_in _
      · exact nmV_in _
      · rw [hex]; intro x hx; cases hx
      · rw [hr, goodQ_err]; rfl
  · cases hs
end Go.Proofs.YtfabdnpeohpgnaaGreatDoor
