import Derived.Test.YtakojeefilpibaaDoorVFNm3
namespace Go.Proofs.YtakojeefilpibaaDoor
set_option linter.all false
open Go.RowKit
open Go.Lib (index hasPrefix trimPrefix cut indexAny hasSuffix trimSuffix)
theorem count_step {p : List UInt8} {i : Nat} (h : i < p.length) : (p.take (i + 1)).count 47 = (p.take i).count 47 + if p.getD i 0 = 47 then 1 else 0 := by
  have e : p.getD i 0 = p[i] := by simp [List.getD_eq_getElem?_getD, List.getElem?_eq_getElem h]
  rw [List.take_add_one, List.getElem?_eq_getElem h, Option.toList_some, List.count_append, e]
  by_cases hb : p[i] = 47
  · rw [if_pos hb, hb]; rfl
  · have e2 : [p[i]].count 47 = 0 := List.count_eq_zero.2 (by simpa using Ne.symm hb)
    rw [if_neg hb, e2]
theorem dec47 (p : List UInt8) (i : Nat) : decide (at8 p i = 47) = decide (p.getD i 0 = 47) := at8_eq p i 47
def lnsizeS : Spec := fun xs hp => match xs, hp with
  | [.str p, .str q, .str d], [] => some ⟨.bool true, [], p.length ≤ 9223372036854775807 ∧ q.length ≤ 9223372036854775807 ∧ d.length ≤ 9223372036854775807⟩
  | _, _ => none
section
variable {pr : Prop}
theorem size_end (a b : List UInt8) (k : Nat) (h1 : k ≤ a.length) (h2 : k ≤ b.length) (ha : a.length ≤ 1000000) (hb : b.length ≤ 1000000) (h : a.take k = b.take k) : ZL phiLN 0 t_lnsize_0 (retQ2 r_lnsize 0 ⟨.bool true, [], pr⟩) (ofS ⟨[(11, .str a), (13, .str b), (15, .int .i64 (k : Int))], []⟩) := .fin (by
  have c1 : decide ((k : Int) ≤ (b.length : Int)) = true := decide_eq_true (by omega)
  have c2 : decide (a.take k = b.take k) = true := decide_eq_true h
  simp only [t_lnsize_0, r_lnsize, phiLN_3, nknownS, c1, c2, Int.toNat_natCast, go_sem, Nat.reduceDiv, Nat.reduceMod, ↓reduceIte, Nat.reduceEqDiff, Nat.reduceBEq, Nat.reduceSub, Nat.reduceLT, Nat.reduceAdd, Nat.reduceLeDiff, reduceCtorEq, Int.reduceEq, Int.reduceNe, Int.reduceLT, Int.reduceLE, Int.reduceToNat]
  (repeat' apply And.intro)
  all_goals first | omega | exact True.intro | rfl | skip)
set_option maxHeartbeats 4000000 in
theorem size_B (p q d : List UInt8) (hp : p.length ≤ 60) (hq : q.length ≤ 60) (hd : d.length ≤ 60) : ZL phiLN 0 t_lnsize_1 (retQ2 r_lnsize 0 ⟨.bool true, [], pr⟩) (ofS ⟨[(0, .str p), (1, .str q), (2, .str d)], []⟩) := by
  obtain ⟨⟨a, e⟩, hx⟩ : ∃ z, nameR (d ++ [47] ++ p) = z := ⟨_, rfl⟩
  obtain ⟨⟨b, f⟩, hy⟩ : ∃ z, nameR (d ++ [47] ++ q) = z := ⟨_, rfl⟩
  unfold t_lnsize_1
  refine .step ?_
  simp only [phiLN_1, nnameS, hx, go_sem, Nat.reduceDiv, Nat.reduceMod, ↓reduceIte, Nat.reduceEqDiff, Nat.reduceBEq, Nat.reduceSub, Nat.reduceLT, Nat.reduceAdd, Nat.reduceLeDiff, reduceCtorEq, Int.reduceEq, Int.reduceNe, Int.reduceLT, Int.reduceLE, Int.reduceToNat]
  (repeat' (refine And.intro ?_ ?_))
  all_goals first | omega | (simp only [lenOk, List.length_append, List.length_cons, List.length_nil]; omega) | skip
  refine .step ?_
  simp only [phiLN_1, nnameS, hy, go_sem, Nat.reduceDiv, Nat.reduceMod, ↓reduceIte, Nat.reduceEqDiff, Nat.reduceBEq, Nat.reduceSub, Nat.reduceLT, Nat.reduceAdd, Nat.reduceLeDiff, reduceCtorEq, Int.reduceEq, Int.reduceNe, Int.reduceLT, Int.reduceLE, Int.reduceToNat]
  (repeat' (refine And.intro ?_ ?_))
  all_goals first | omega | (simp only [lenOk, List.length_append, List.length_cons, List.length_nil]; omega) | skip
  refine .step ?_
  cases g1 : decide (e = 0) with
  | false =>
    have g1' := of_decide_eq_false g1
    have n1 : decide (e ≠ 0) = true := decide_eq_true g1'
    simp only [phiLN_3, nknownS, g1, Bool.not_false, Bool.not_true, r_lnsize, go_sem, Nat.reduceDiv, Nat.reduceMod, ↓reduceIte, Nat.reduceEqDiff, Nat.reduceBEq, Nat.reduceSub, Nat.reduceLT, Nat.reduceAdd, Nat.reduceLeDiff, reduceCtorEq, Int.reduceEq, Int.reduceNe, Int.reduceLT, Int.reduceLE, Int.reduceToNat]
  | true =>
    obtain rfl : e = 0 := of_decide_eq_true g1
    cases g2 : decide (f = 0) with
    | false =>
      simp only [phiLN_3, nknownS, g2, Bool.not_false, Bool.not_true, r_lnsize, go_sem, Nat.reduceDiv, Nat.reduceMod, ↓reduceIte, Nat.reduceEqDiff, Nat.reduceBEq, Nat.reduceSub, Nat.reduceLT, Nat.reduceAdd, Nat.reduceLeDiff, reduceCtorEq, Int.reduceEq, Int.reduceNe, Int.reduceLT, Int.reduceLE, Int.reduceToNat]
    | true =>
      obtain rfl : f = 0 := of_decide_eq_true g2
      obtain ⟨-, ha, ha2⟩ := nameR_ok hx
      obtain ⟨-, hb, hb2⟩ := nameR_ok hy
      rw [show d ++ [47] ++ p = d ++ 47 :: p by simp, nameL_dir] at ha
      rw [show d ++ [47] ++ q = d ++ 47 :: q by simp, nameL_dir] at hb
      have hhc := head_count d
      have hhs := fun k h => head_short d (k := k) h
      generalize dataW ++ headL d = P at *
      have hal : P.length + 2 ≤ a.length := by rw [ha, List.length_append, List.length_append]; show _ ≤ _ + (_ + 2); omega
      have hbl : P.length + 2 ≤ b.length := by rw [hb, List.length_append, List.length_append]; show _ ≤ _ + (_ + 2); omega
      have htk : ∀ k, k ≤ P.length → a.take k = P.take k := fun k h => by rw [ha, List.take_append_of_le_length h]
      have htkb : ∀ k, k ≤ P.length → b.take k = P.take k := fun k h => by rw [hb, List.take_append_of_le_length h]
      clear ha hb
      simp only [go_sem, Nat.reduceDiv, Nat.reduceMod, ↓reduceIte, Nat.reduceEqDiff, Nat.reduceBEq, Nat.reduceSub, Nat.reduceLT, Nat.reduceAdd, Nat.reduceLeDiff, reduceCtorEq, Int.reduceEq, Int.reduceNe, Int.reduceLT, Int.reduceLE, Int.reduceToNat]
      refine .kp [] [2, 11, 13] [] _ rfl rfl rfl ?_
      refine .step ?_
      simp only [go_sem, Nat.reduceDiv, Nat.reduceMod, ↓reduceIte, Nat.reduceEqDiff, Nat.reduceBEq, Nat.reduceSub, Nat.reduceLT, Nat.reduceAdd, Nat.reduceLeDiff, reduceCtorEq, Int.reduceEq, Int.reduceNe, Int.reduceLT, Int.reduceLE, Int.reduceToNat]
      refine .step ?_
      simp only [go_sem, Nat.reduceDiv, Nat.reduceMod, ↓reduceIte, Nat.reduceEqDiff, Nat.reduceBEq, Nat.reduceSub, Nat.reduceLT, Nat.reduceAdd, Nat.reduceLeDiff, reduceCtorEq, Int.reduceEq, Int.reduceNe, Int.reduceLT, Int.reduceLE, Int.reduceToNat]
      refine .step ?_
      simp only [go_sem, Nat.reduceDiv, Nat.reduceMod, ↓reduceIte, Nat.reduceEqDiff, Nat.reduceBEq, Nat.reduceSub, Nat.reduceLT, Nat.reduceAdd, Nat.reduceLeDiff, reduceCtorEq, Int.reduceEq, Int.reduceNe, Int.reduceLT, Int.reduceLE, Int.reduceToNat]
      refine loop2P (m := 0) [] [2, 11, 13, 15, 16, 17] [] (fun i : Nat => ⟨[(2, .str d), (11, .str a), (13, .str b), (15, .int .i64 0), (16, .int .i64 ((d.take i).count 47 : Int)), (17, .int .i64 (i : Int))], []⟩)
        (fun i => i ≤ d.length) (fun i => d.length - i) 0 (by rfl) (Nat.zero_le _) ⟨rfl, by rfl⟩ (fun i hi R hR => ?_)
      have hcl : (d.take i).count 47 ≤ 60 := by
        have h1 := List.count_le_length (a := (47 : UInt8)) (l := d.take i)
        rw [List.length_take] at h1; omega
      by_cases hil : i < d.length
      · have c1 : decide ((i : Int) < (d.length : Int)) = true := decide_eq_true (by omega)
        have hst := count_step hil
        have h47 := dec47 d i
        cases k1 : decide (d.getD i 0 = 47) with
        | true =>
          rw [if_pos (of_decide_eq_true k1)] at hst
          simp only [b_lnsize_1, c1, h47, k1, Int.toNat_natCast, go_sem, Nat.reduceDiv, Nat.reduceMod, ↓reduceIte, Nat.reduceEqDiff, Nat.reduceBEq, Nat.reduceSub, Nat.reduceLT, Nat.reduceAdd, Nat.reduceLeDiff, reduceCtorEq, Int.reduceEq, Int.reduceNe, Int.reduceLT, Int.reduceLE, Int.reduceToNat]
          (repeat' apply And.intro)
          all_goals first | omega | (simp only [inI]; omega) | exact hR _ (i + 1) hil (by omega) (by rw [hst]; rfl) | skip
        | false =>
          rw [if_neg (of_decide_eq_false k1)] at hst
          simp only [b_lnsize_1, c1, h47, k1, Int.toNat_natCast, go_sem, Nat.reduceDiv, Nat.reduceMod, ↓reduceIte, Nat.reduceEqDiff, Nat.reduceBEq, Nat.reduceSub, Nat.reduceLT, Nat.reduceAdd, Nat.reduceLeDiff, reduceCtorEq, Int.reduceEq, Int.reduceNe, Int.reduceLT, Int.reduceLE, Int.reduceToNat]
          (repeat' apply And.intro)
          all_goals first | omega | (simp only [inI]; omega) | exact hR _ (i + 1) hil (by omega) (by rw [hst]; rfl) | skip
      · have c1 : decide ((i : Int) < (d.length : Int)) = false := decide_eq_false (by omega)
        rw [List.take_of_length_le (by omega)] at hcl ⊢
        simp only [b_lnsize_1, c1, go_sem, Nat.reduceDiv, Nat.reduceMod, ↓reduceIte, Nat.reduceEqDiff, Nat.reduceBEq, Nat.reduceSub, Nat.reduceLT, Nat.reduceAdd, Nat.reduceLeDiff, reduceCtorEq, Int.reduceEq, Int.reduceNe, Int.reduceLT, Int.reduceLE, Int.reduceToNat]
        clear hR R
        refine .step ?_
        simp only [go_sem, Nat.reduceDiv, Nat.reduceMod, ↓reduceIte, Nat.reduceEqDiff, Nat.reduceBEq, Nat.reduceSub, Nat.reduceLT, Nat.reduceAdd, Nat.reduceLeDiff, reduceCtorEq, Int.reduceEq, Int.reduceNe, Int.reduceLT, Int.reduceLE, Int.reduceToNat]
        refine loop2P (m := 0) [] [11, 13, 15, 16] [] (fun k : Nat => ⟨[(11, .str a), (13, .str b), (15, .int .i64 (k : Int)), (16, .int .i64 ((d.count 47 : Int) - ((P.take k).count 47 : Int)))], []⟩)
          (fun k => k ≤ P.length) (fun k => P.length - k) 0 (by simp only [List.take_zero, List.count_nil, Int.sub_zero, Int.cast_ofNat_Int]; rfl) (Nat.zero_le _) ⟨rfl, by rfl⟩ (fun k hk R hR => ?_)
        have hcP : (P.take k).count 47 ≤ P.length := by
          have h1 := List.count_le_length (a := (47 : UInt8)) (l := P.take k)
          rw [List.length_take] at h1; omega
        have c1 : decide ((k : Int) < (a.length : Int)) = true := decide_eq_true (by omega)
        by_cases hkl : k < P.length
        · have hsh := hhs k hkl
          have c2 : decide (-1 ≤ (d.count 47 : Int) - ((P.take k).count 47 : Int)) = true := decide_eq_true (by omega)
          have hst := count_step hkl
          have hg : a.getD k 0 = P.getD k 0 := by
            have := congrArg (fun l => l.getD k 0) (htk (k + 1) (by omega))
            simpa [List.getD_eq_getElem?_getD, List.getElem?_take] using this
          have h47 := dec47 a k
          rw [hg] at h47
          cases k1 : decide (P.getD k 0 = 47) with
          | true =>
            rw [if_pos (of_decide_eq_true k1)] at hst
            have hsl : (d.count 47 : Int) - ((P.take k).count 47 : Int) - 1 = (d.count 47 : Int) - ((P.take (k + 1)).count 47 : Int) := by rw [hst]; omega
            simp only [b_lnsize_2, c1, c2, h47, k1, hsl, Int.toNat_natCast, go_sem, Nat.reduceDiv, Nat.reduceMod, ↓reduceIte, Nat.reduceEqDiff, Nat.reduceBEq, Nat.reduceSub, Nat.reduceLT, Nat.reduceAdd, Nat.reduceLeDiff, reduceCtorEq, Int.reduceEq, Int.reduceNe, Int.reduceLT, Int.reduceLE, Int.reduceToNat]
            (repeat' apply And.intro)
            all_goals first | omega | (simp only [inI]; omega) | exact hR _ (k + 1) hkl (by omega) rfl | skip
          | false =>
            rw [if_neg (of_decide_eq_false k1)] at hst
            simp only [b_lnsize_2, c1, c2, h47, k1, Int.toNat_natCast, go_sem, Nat.reduceDiv, Nat.reduceMod, ↓reduceIte, Nat.reduceEqDiff, Nat.reduceBEq, Nat.reduceSub, Nat.reduceLT, Nat.reduceAdd, Nat.reduceLeDiff, reduceCtorEq, Int.reduceEq, Int.reduceNe, Int.reduceLT, Int.reduceLE, Int.reduceToNat]
            (repeat' apply And.intro)
            all_goals first | omega | (simp only [inI]; omega) | exact hR _ (k + 1) hkl (by omega) (by rw [hst]; rfl) | skip
        · obtain rfl : k = P.length := by omega
          rw [List.take_length]
          have c2 : decide (-1 ≤ (d.count 47 : Int) - (P.count 47 : Int)) = false := decide_eq_false (by omega)
          simp only [b_lnsize_2, c1, c2, go_sem, Nat.reduceDiv, Nat.reduceMod, ↓reduceIte, Nat.reduceEqDiff, Nat.reduceBEq, Nat.reduceSub, Nat.reduceLT, Nat.reduceAdd, Nat.reduceLeDiff, reduceCtorEq, Int.reduceEq, Int.reduceNe, Int.reduceLT, Int.reduceLE, Int.reduceToNat]
          exact .kp [] [11, 13, 15] [] _ rfl rfl rfl (size_end a b P.length (by omega) (by omega) (by omega) (by omega) (by rw [htk _ (Nat.le_refl _), htkb _ (Nat.le_refl _)]))
end
set_option maxHeartbeats 4000000 in
theorem lnsize_ok : FnOk Tryd.prog 4 lnsizeS := by
  refine fn_slimL (pr := false) Tryd.func4 s_lnsize phiLN_ok ?_
  intro xs hp r hs hp'
  unfold lnsizeS at hs
  split at hs
  · injection hs with hs; subst hs
    rename_i p q d
    obtain ⟨hp1, hp2, hp3⟩ := hp'
    refine ⟨len_le (by kernel_rfl), ?_⟩
    have tk60 : ∀ p : List UInt8, p.take (min (p.length : Int) 60).toNat = p.take 60 := fun p => by
      rcases Nat.lt_or_ge p.length 60 with h | h
      · rw [show (min (p.length : Int) 60).toNat = p.length by omega, List.take_length, List.take_of_length_le (by omega)]
      · rw [show (min (p.length : Int) 60).toNat = 60 by omega]
    have b1 : (p.take 60).length ≤ 60 := by rw [List.length_take]; omega
    have b2 : (q.take 60).length ≤ 60 := by rw [List.length_take]; omega
    have b3 : (d.take 60).length ≤ 60 := by rw [List.length_take]; omega
    unfold c_lnsize
    refine .step ?_
    simp only [go_sem, Nat.reduceDiv, Nat.reduceMod, ↓reduceIte, Nat.reduceEqDiff, Nat.reduceBEq, Nat.reduceSub, Nat.reduceLT, Nat.reduceAdd, Nat.reduceLeDiff, reduceCtorEq, Int.reduceEq, Int.reduceNe, Int.reduceLT, Int.reduceLE, Int.reduceToNat]
    refine .step ?_
    simp only [tk60, go_sem, Nat.reduceDiv, Nat.reduceMod, ↓reduceIte, Nat.reduceEqDiff, Nat.reduceBEq, Nat.reduceSub, Nat.reduceLT, Nat.reduceAdd, Nat.reduceLeDiff, reduceCtorEq, Int.reduceEq, Int.reduceNe, Int.reduceLT, Int.reduceLE, Int.reduceToNat]
    generalize p.take 60 = P at *
    generalize q.take 60 = Q at *
    generalize d.take 60 = D at *
    (repeat' (refine And.intro ?_ ?_))
    all_goals first | omega | skip
    refine .kp [] [0, 1, 2] [] _ rfl rfl rfl ?_
    obtain ⟨⟨x, e⟩, hx⟩ : ∃ z, nameR P = z := ⟨_, rfl⟩
    refine .step ?_
    simp only [phiLN_1, nnameS, hx, go_sem, Nat.reduceDiv, Nat.reduceMod, ↓reduceIte, Nat.reduceEqDiff, Nat.reduceBEq, Nat.reduceSub, Nat.reduceLT, Nat.reduceAdd, Nat.reduceLeDiff, reduceCtorEq, Int.reduceEq, Int.reduceNe, Int.reduceLT, Int.reduceLE, Int.reduceToNat]
    refine ⟨by omega, ?_⟩
    refine .step ?_
    cases g1 : decide (e = 0) with
    | false =>
      simp only [g1, go_sem, Nat.reduceDiv, Nat.reduceMod, ↓reduceIte, Nat.reduceEqDiff, Nat.reduceBEq, Nat.reduceSub, Nat.reduceLT, Nat.reduceAdd, Nat.reduceLeDiff, reduceCtorEq, Int.reduceEq, Int.reduceNe, Int.reduceLT, Int.reduceLE, Int.reduceToNat]
      exact .kp [] [0, 1, 2] [] _ rfl rfl rfl (size_B P Q D b1 b2 b3)
    | true =>
      obtain rfl : e = 0 := of_decide_eq_true g1
      obtain ⟨r1, r2, r3⟩ := nameR_ok hx
      have hnl := name_len P
      rw [← r2] at hnl
      simp only [go_sem, Nat.reduceDiv, Nat.reduceMod, ↓reduceIte, Nat.reduceEqDiff, Nat.reduceBEq, Nat.reduceSub, Nat.reduceLT, Nat.reduceAdd, Nat.reduceLeDiff, reduceCtorEq, Int.reduceEq, Int.reduceNe, Int.reduceLT, Int.reduceLE, Int.reduceToNat]
      refine loop2P (m := 0) [] [0, 1, 2, 7, 9, 10] [] (fun i : Nat => ⟨[(0, .str P), (1, .str Q), (2, .str D), (7, .str x), (9, .int .i64 (1 + ((P.take i).count 47 : Int))), (10, .int .i64 (i : Int))], []⟩)
        (fun i => i ≤ P.length) (fun i => P.length - i) 0 (by simp only [List.take_zero, List.count_nil, Int.cast_ofNat_Int]; rfl) (Nat.zero_le _) ⟨rfl, by rfl⟩ (fun i hi R hR => ?_)
      have hcl : (P.take i).count 47 ≤ 60 := by
        have h1 := List.count_le_length (a := (47 : UInt8)) (l := P.take i)
        rw [List.length_take] at h1; omega
      by_cases hil : i < P.length
      · have c1 : decide ((i : Int) < (P.length : Int)) = true := decide_eq_true (by omega)
        have hst := count_step hil
        have h47 := dec47 P i
        cases k1 : decide (P.getD i 0 = 47) with
        | true =>
          rw [if_pos (of_decide_eq_true k1)] at hst
          have hsl : 1 + ((P.take i).count 47 : Int) + 1 = 1 + ((P.take (i + 1)).count 47 : Int) := by rw [hst]; omega
          simp only [b_lnsize_0, c1, h47, k1, hsl, Int.toNat_natCast, go_sem, Nat.reduceDiv, Nat.reduceMod, ↓reduceIte, Nat.reduceEqDiff, Nat.reduceBEq, Nat.reduceSub, Nat.reduceLT, Nat.reduceAdd, Nat.reduceLeDiff, reduceCtorEq, Int.reduceEq, Int.reduceNe, Int.reduceLT, Int.reduceLE, Int.reduceToNat]
          (repeat' apply And.intro)
          all_goals first | omega | (simp only [inI]; omega) | exact hR _ (i + 1) hil (by omega) rfl | skip
        | false =>
          rw [if_neg (of_decide_eq_false k1)] at hst
          simp only [b_lnsize_0, c1, h47, k1, Int.toNat_natCast, go_sem, Nat.reduceDiv, Nat.reduceMod, ↓reduceIte, Nat.reduceEqDiff, Nat.reduceBEq, Nat.reduceSub, Nat.reduceLT, Nat.reduceAdd, Nat.reduceLeDiff, reduceCtorEq, Int.reduceEq, Int.reduceNe, Int.reduceLT, Int.reduceLE, Int.reduceToNat]
          (repeat' apply And.intro)
          all_goals first | omega | (simp only [inI]; omega) | exact hR _ (i + 1) hil (by omega) (by rw [hst]; rfl) | skip
      · have c1 : decide ((i : Int) < (P.length : Int)) = false := decide_eq_false (by omega)
        obtain rfl : i = P.length := by omega
        rw [List.take_length] at hcl ⊢
        have k1 : decide (3 * (P.length : Int) + 10 + 6 * (1 + (P.count 47 : Int)) < (x.length : Int)) = false := decide_eq_false (by omega)
        have k2 : decide ((x.length : Int) < (P.length : Int) + 7) = false := decide_eq_false (by omega)
        simp only [b_lnsize_0, c1, k1, k2, go_sem, Nat.reduceDiv, Nat.reduceMod, ↓reduceIte, Nat.reduceEqDiff, Nat.reduceBEq, Nat.reduceSub, Nat.reduceLT, Nat.reduceAdd, Nat.reduceLeDiff, reduceCtorEq, Int.reduceEq, Int.reduceNe, Int.reduceLT, Int.reduceLE, Int.reduceToNat]
        refine ⟨by simp only [inI]; omega, by simp only [inI]; omega, by simp only [inI]; omega, by simp only [inI]; omega, by simp only [inI]; omega, ?_⟩
        exact .kp [] [0, 1, 2] [] _ rfl rfl rfl (size_B P Q D b1 b2 b3)
  · cases hs
theorem namesSizes_walk {l0 l1 l2 : List UInt8} (w : World) (w0 : ByteArray.size ⟨⟨l0⟩⟩ ≤ maxLen) (w1 : ByteArray.size ⟨⟨l1⟩⟩ ≤ maxLen) (w2 : ByteArray.size ⟨⟨l2⟩⟩ ≤ maxLen) (g : GlobOk w (fun b => b < w.heap.size)) :
    Calls Tryd.prog 4 #[.string ⟨⟨l0⟩⟩, .string ⟨⟨l1⟩⟩, .string ⟨⟨l2⟩⟩] w fun e w' => e = .returned (.bool true) ∧ Below w.heap.size w w' :=
  lnsize_ok.calls_bool (xs := [.str l0, .str l1, .str l2]) rfl ⟨by simpa [maxLen, ByteArray.size] using w0, by simpa [maxLen, ByteArray.size] using w1, by simpa [maxLen, ByteArray.size] using w2⟩ rfl (args_cons (Vl.str' l0) (args_cons (Vl.str' l1) (args_cons (Vl.str' l2) (args_nil g))))
end Go.Proofs.YtakojeefilpibaaDoor
