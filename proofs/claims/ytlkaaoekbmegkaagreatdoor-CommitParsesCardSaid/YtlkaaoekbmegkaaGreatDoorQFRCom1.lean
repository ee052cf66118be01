import Derived.Test.YtlkaaoekbmegkaaGreatDoorQRComCode
import Derived.Test.YtlkaaoekbmegkaaGreatDoorQFCom6
import Derived.Test.YtlkaaoekbmegkaaGreatDoorQFNRight
namespace Go.Proofs.YtlkaaoekbmegkaaGreatDoor
set_option linter.all false
open Go.RowKit
open Go.Lib (index hasPrefix cut indexAny itoa)
theorem hasL_iff (p s : List UInt8) : hasL p s = true ↔ ∃ x ∈ s, x ∈ p := by unfold hasL; simp
theorem at8_eq {l m : List UInt8} {i j : Nat} (hi : i < l.length) (hj : j < m.length) : (at8 l i = at8 m j) ↔ l[i] = m[j] := by
  unfold at8
  rw [List.getD_eq_getElem?_getD, List.getD_eq_getElem?_getD, List.getElem?_eq_getElem hi, List.getElem?_eq_getElem hj]
  simp only [Option.getD_some]
  constructor
  · intro h; exact UInt8.toNat_inj.1 (by omega)
  · intro h; rw [h]
theorem at8_lit {l : List UInt8} {i : Nat} (hi : i < l.length) : at8 l i = ((l[i]).toNat : Int) := by
  unfold at8
  rw [List.getD_eq_getElem?_getD, List.getElem?_eq_getElem hi]; rfl
theorem take_mem {l : List UInt8} {i : Nat} {x : UInt8} (hi : i < l.length) : x ∈ l.take (i + 1) ↔ x ∈ l.take i ∨ x = l[i] := by
  rw [List.take_add_one, List.getElem?_eq_getElem hi, Option.toList_some, List.mem_append, List.mem_singleton]
def rhasS : Spec := fun xs hp => match xs, hp with
  | [.str s, .str p], [] => some ⟨.bool (hasL p s), [], s.length ≤ 1000000000000 ∧ p.length ≤ 1000000000000⟩
  | _, _ => none
theorem rhas_ok : FnOk Tryz.prog 42 rhasS := by
  refine fn_slim2 Tryz.func42 s_rhas (Φ := phiL []) phi_nil ?_
  intro xs hp r hs hp'
  unfold rhasS at hs
  split at hs
  · injection hs with hs; subst hs
    rename_i s p
    obtain ⟨p1, p2⟩ := hp'
    refine ⟨len_le (by kernel_rfl), ?_⟩
    simp only [c_rhas, go_sem, Nat.reduceDiv, Nat.reduceMod, ↓reduceIte, Nat.reduceEqDiff, Nat.reduceBEq, Nat.reduceSub, Nat.reduceLT, Nat.reduceAdd, Nat.reduceLeDiff, reduceCtorEq, Int.reduceEq, Int.reduceNe, Int.reduceLT, Int.reduceLE, Int.reduceToNat]
    refine loop2P [] [0, 1, 5] [] (fun i : Nat => ⟨[(0, .str s), (1, .str p), (5, .int .i64 (i : Int))], []⟩) (fun i => i ≤ s.length ∧ ∀ x ∈ s.take i, x ∉ p) (fun i => s.length - i) 0 rfl ⟨by omega, by simp⟩ ⟨rfl, rfl⟩ (fun i hi R hR => ?_)
    obtain ⟨i1, i2⟩ := hi
    by_cases hil : i < s.length
    · have c1 : decide ((i : Int) < (s.length : Int)) = true := decide_eq_true (by omega)
      simp only [b_rhas_1, c1, go_sem, Nat.reduceDiv, Nat.reduceMod, ↓reduceIte, Nat.reduceEqDiff, Nat.reduceBEq, Nat.reduceSub, Nat.reduceLT, Nat.reduceAdd, Nat.reduceLeDiff, reduceCtorEq, Int.reduceEq, Int.reduceNe, Int.reduceLT, Int.reduceLE, Int.reduceToNat]
      refine loop2P [] [0, 1, 5, 6] [] (fun k : Nat => ⟨[(0, .str s), (1, .str p), (5, .int .i64 (i : Int)), (6, .int .i64 (k : Int))], []⟩) (fun k => k ≤ p.length ∧ s[i] ∉ p.take k) (fun k => p.length - k) 0 rfl ⟨by omega, by simp⟩ ⟨rfl, rfl⟩ (fun k hk R2 hR2 => ?_)
      obtain ⟨k1, k2⟩ := hk
      by_cases hkl : k < p.length
      · have c2 : decide ((k : Int) < (p.length : Int)) = true := decide_eq_true (by omega)
        have hh := at8_eq hil hkl
        simp only [b_rhas_0, r_rhas, c2, Int.toNat_natCast, go_sem, Nat.reduceDiv, Nat.reduceMod, ↓reduceIte, Nat.reduceEqDiff, Nat.reduceBEq, Nat.reduceSub, Nat.reduceLT, Nat.reduceAdd, Nat.reduceLeDiff, reduceCtorEq, Int.reduceEq, Int.reduceNe, Int.reduceLT, Int.reduceLE, Int.reduceToNat]
        refine ⟨⟨by omega, by omega⟩, ⟨by omega, by omega⟩, fun h => ?_, fun h => ⟨⟨by omega, by omega⟩, hR2 _ (k + 1) ⟨by omega, fun hm => ?_⟩ (by omega) rfl⟩⟩
        · have h := hh.1 (of_decide_eq_true h)
          have : hasL p s = true := (hasL_iff p s).2 ⟨s[i], List.getElem_mem _, by rw [h]; exact List.getElem_mem _⟩
          rw [this]
        · have h := of_decide_eq_false h
          rcases (take_mem hkl).1 hm with hm | hm
          · exact k2 hm
          · exact h (hh.2 hm)
      · have c2 : decide ((k : Int) < (p.length : Int)) = false := decide_eq_false (by omega)
        have e : p.take k = p := List.take_of_length_le (by omega)
        rw [e] at k2
        simp only [b_rhas_0, t_rhas_0, r_rhas, c2, go_sem, Nat.reduceDiv, Nat.reduceMod, ↓reduceIte, Nat.reduceEqDiff, Nat.reduceBEq, Nat.reduceSub, Nat.reduceLT, Nat.reduceAdd, Nat.reduceLeDiff, reduceCtorEq, Int.reduceEq, Int.reduceNe, Int.reduceLT, Int.reduceLE, Int.reduceToNat]
        refine ⟨⟨by omega, by omega⟩, hR _ (i + 1) ⟨by omega, fun x hx => ?_⟩ (by omega) rfl⟩
        rcases (take_mem hil).1 hx with hx | rfl
        · exact i2 x hx
        · exact k2
    · have c1 : decide ((i : Int) < (s.length : Int)) = false := decide_eq_false (by omega)
      have e : s.take i = s := List.take_of_length_le (by omega)
      rw [e] at i2
      have : hasL p s = false := by
        rw [Bool.eq_false_iff]; intro h
        obtain ⟨x, hx, hxp⟩ := (hasL_iff p s).1 h
        exact i2 x hx hxp
      rw [this]
      simp only [b_rhas_1, t_rhas_1, r_rhas, c1, go_sem, Nat.reduceDiv, Nat.reduceMod, ↓reduceIte, Nat.reduceEqDiff, Nat.reduceBEq, Nat.reduceSub, Nat.reduceLT, Nat.reduceAdd, Nat.reduceLeDiff, reduceCtorEq, Int.reduceEq, Int.reduceNe, Int.reduceLT, Int.reduceLE, Int.reduceToNat]
  · cases hs
theorem hasL_app (p a b : List UInt8) : hasL p (a ++ b) = (hasL p a || hasL p b) := by unfold hasL; rw [List.any_append]
def rpersonS : Spec := fun xs hp => match xs, hp with
  | [.agg [(1, .str n), (1, .str m), (1, .int .i64 t), (1, .str z)]], [] => some ⟨.bool (rightW ⟨n, m, t, z⟩), [], n.length ≤ 1000000000000 ∧ m.length ≤ 1000000000000 ∧ z.length ≤ 1000000000000⟩
  | _, _ => none
set_option maxHeartbeats 2000000 in
theorem rperson_ok : FnOk Tryz.prog 16 rpersonS := by
  refine fn_slim2 Tryz.func16 s_rperson (Φ := phiL [(42, [], rhasS)]) (phi_cons rhas_ok (by kernel_rfl) phi_nil) ?_
  intro xs hp r hs hp'
  unfold rpersonS at hs
  split at hs
  · injection hs with hs; subst hs
    rename_i n m t z
    obtain ⟨p1, p2, p3⟩ := hp'
    refine ⟨len_le (by kernel_rfl), ?_⟩
    have hr : rightW ⟨n, m, t, z⟩ = (!(hasL [60, 62, 10] n || hasL [60, 62, 10] m) && decide (0 ≤ t) && decide (t < 4611686018427387904) && zonB z) := by unfold rightW; rw [hasL_app]
    rw [hr]
    have no : ∀ b : Bool, b = false → (retQ2 r_rperson 0 (⟨.bool b, [], True⟩ : Ret)) = (retQ2 r_rperson 0 (⟨.bool false, [], True⟩ : Ret)) := fun b h => by rw [h]
    cases h1 : hasL [60, 62, 10] n with
    | true =>
      simp only [c_rperson, r_rperson, rhasS, h1, Bool.true_or, Bool.not_true, Bool.false_and, go_sem, Nat.reduceDiv, Nat.reduceMod, ↓reduceIte, Nat.reduceEqDiff, Nat.reduceBEq, Nat.reduceSub, Nat.reduceLT, Nat.reduceAdd, Nat.reduceLeDiff, reduceCtorEq, Int.reduceEq, Int.reduceNe, Int.reduceLT, Int.reduceLE, Int.reduceToNat]
      exact p1
    | false =>
    cases h2 : hasL [60, 62, 10] m with
    | true =>
      simp only [c_rperson, r_rperson, rhasS, h1, h2, Bool.true_or, Bool.or_true, Bool.not_true, Bool.false_and, go_sem, Nat.reduceDiv, Nat.reduceMod, ↓reduceIte, Nat.reduceEqDiff, Nat.reduceBEq, Nat.reduceSub, Nat.reduceLT, Nat.reduceAdd, Nat.reduceLeDiff, reduceCtorEq, Int.reduceEq, Int.reduceNe, Int.reduceLT, Int.reduceLE, Int.reduceToNat]
      exact ⟨p1, p2⟩
    | false =>
    by_cases h3 : t < 0
    · have d3 : decide (t < 0) = true := decide_eq_true h3
      have d4 : decide (0 ≤ t) = false := decide_eq_false (by omega)
      simp only [c_rperson, r_rperson, rhasS, h1, h2, d3, d4, Bool.and_false, Bool.false_and, go_sem, Nat.reduceDiv, Nat.reduceMod, ↓reduceIte, Nat.reduceEqDiff, Nat.reduceBEq, Nat.reduceSub, Nat.reduceLT, Nat.reduceAdd, Nat.reduceLeDiff, reduceCtorEq, Int.reduceEq, Int.reduceNe, Int.reduceLT, Int.reduceLE, Int.reduceToNat]
      exact ⟨p1, p2⟩
    · have d3 : decide (t < 0) = false := decide_eq_false h3
      have d4 : decide (0 ≤ t) = true := decide_eq_true (by omega)
      by_cases h4 : 4611686018427387904 ≤ t
      · have d5 : decide (4611686018427387904 ≤ t) = true := decide_eq_true h4
        have d6 : decide (t < 4611686018427387904) = false := decide_eq_false (by omega)
        simp only [c_rperson, r_rperson, rhasS, h1, h2, d3, d4, d5, d6, Bool.and_false, Bool.false_and, go_sem, Nat.reduceDiv, Nat.reduceMod, ↓reduceIte, Nat.reduceEqDiff, Nat.reduceBEq, Nat.reduceSub, Nat.reduceLT, Nat.reduceAdd, Nat.reduceLeDiff, reduceCtorEq, Int.reduceEq, Int.reduceNe, Int.reduceLT, Int.reduceLE, Int.reduceToNat]
        exact ⟨p1, p2⟩
      · have d5 : decide (4611686018427387904 ≤ t) = false := decide_eq_false h4
        have d6 : decide (t < 4611686018427387904) = true := decide_eq_true (by omega)
        unfold zonB
        by_cases h5 : z.length = 5
        · have d7 : decide ((z.length : Int) = 5) = true := decide_eq_true (by omega)
          have e5 : decide (z.length = 5) = true := decide_eq_true h5
          have e1 : decide (at8 z 0 = 43) = decide ((z.getD 0 0).toNat = 43) := by unfold at8; rw [Bool.eq_iff_iff]; simp; omega
          have e2 : decide (at8 z 0 = 45) = decide ((z.getD 0 0).toNat = 45) := by unfold at8; rw [Bool.eq_iff_iff]; simp; omega
          have dg : ∀ i (h : i < z.length), digB z[i] = true ↔ ¬ (at8 z i < 48) ∧ ¬ (57 < at8 z i) := by
            intro i h
            rw [at8_lit h]
            unfold digB
            simp; omega
          have allT : (∀ i (h : i < z.length), 1 ≤ i → digB z[i] = true) → (z.drop 1).all digB = true := by
            intro h
            rw [List.all_eq_true]
            intro x hx
            obtain ⟨j, hj, rfl⟩ := List.getElem_of_mem hx
            rw [List.getElem_drop]
            exact h _ _ (by omega)
          have allF : ∀ i (h : i < z.length), 1 ≤ i → digB z[i] = false → (z.drop 1).all digB = false := by
            intro i h h1 hf
            rw [List.all_eq_false]
            refine ⟨z[i], ?_, by rw [hf]; simp⟩
            have : z[i] = (z.drop 1)[i - 1]'(by rw [List.length_drop]; omega) := by rw [List.getElem_drop]; congr 1; omega
            rw [this]; exact List.getElem_mem _
          cases h6 : decide ((z.getD 0 0).toNat = 43) <;> cases h7 : decide ((z.getD 0 0).toNat = 45) <;> rw [h6] at e1 <;> rw [h7] at e2
          · simp only [c_rperson, r_rperson, rhasS, h1, h2, d3, d4, d5, d6, d7, e1, e2, e5, h5, Bool.and_false, Bool.false_and, Bool.or_self, go_sem, Nat.reduceDiv, Nat.reduceMod, ↓reduceIte, Nat.reduceEqDiff, Nat.reduceBEq, Nat.reduceSub, Nat.reduceLT, Nat.reduceAdd, Nat.reduceLeDiff, reduceCtorEq, Int.reduceEq, Int.reduceNe, Int.reduceLT, Int.reduceLE, Int.reduceToNat]
            exact ⟨p1, p2⟩
          all_goals (
            simp only [c_rperson, rhasS, h1, h2, d3, d4, d5, d6, d7, e1, e2, e5, h5, Bool.and_false, Bool.false_and, Bool.or_self, Bool.true_or, Bool.or_true, Bool.not_false, Bool.true_and, go_sem, Nat.reduceDiv, Nat.reduceMod, ↓reduceIte, Nat.reduceEqDiff, Nat.reduceBEq, Nat.reduceSub, Nat.reduceLT, Nat.reduceAdd, Nat.reduceLeDiff, reduceCtorEq, Int.reduceEq, Int.reduceNe, Int.reduceLT, Int.reduceLE, Int.reduceToNat]
            refine ⟨p1, p2, ?_⟩
            refine loop2P [] [1, 3] [0] (fun i : Nat => ⟨[(1, .ref 0 0 0), (3, .int .i64 (i : Int))], [.cells 25 [(1, .str n), (1, .str m), (1, .int .i64 t), (1, .str z)]]⟩) (fun i => 1 ≤ i ∧ i ≤ 5 ∧ ∀ j (h : j < z.length), 1 ≤ j → j < i → digB z[j] = true) (fun i => 5 - i) 1 rfl ⟨by omega, by omega, fun j h h1 h2 => by omega⟩ ⟨rfl, by rfl⟩ (fun i hi R hR => ?_)
            obtain ⟨i1, i2, i3⟩ := hi
            by_cases hil : i < 5
            · have c1 : decide ((i : Int) < 5) = true := decide_eq_true (by omega)
              have hd := dg i (by omega)
              cases g1 : decide (at8 z i < 48) with
              | true =>
                have hf := allF i (by omega) i1 (by rw [Bool.eq_false_iff]; intro h; exact (hd.1 h).1 (of_decide_eq_true g1))
                rw [hf]
                simp only [b_rperson_0, r_rperson, c1, g1, Int.toNat_natCast, h5, go_sem, Nat.reduceDiv, Nat.reduceMod, ↓reduceIte, Nat.reduceEqDiff, Nat.reduceBEq, Nat.reduceSub, Nat.reduceLT, Nat.reduceAdd, Nat.reduceLeDiff, reduceCtorEq, Int.reduceEq, Int.reduceNe, Int.reduceLT, Int.reduceLE, Int.reduceToNat]
                omega
              | false =>
                cases g2 : decide (57 < at8 z i) with
                | true =>
                  have hf := allF i (by omega) i1 (by rw [Bool.eq_false_iff]; intro h; exact (hd.1 h).2 (of_decide_eq_true g2))
                  rw [hf]
                  simp only [b_rperson_0, r_rperson, c1, g1, g2, Int.toNat_natCast, h5, go_sem, Nat.reduceDiv, Nat.reduceMod, ↓reduceIte, Nat.reduceEqDiff, Nat.reduceBEq, Nat.reduceSub, Nat.reduceLT, Nat.reduceAdd, Nat.reduceLeDiff, reduceCtorEq, Int.reduceEq, Int.reduceNe, Int.reduceLT, Int.reduceLE, Int.reduceToNat]
                  omega
                | false =>
                  simp only [b_rperson_0, r_rperson, c1, g1, g2, Int.toNat_natCast, h5, go_sem, Nat.reduceDiv, Nat.reduceMod, ↓reduceIte, Nat.reduceEqDiff, Nat.reduceBEq, Nat.reduceSub, Nat.reduceLT, Nat.reduceAdd, Nat.reduceLeDiff, reduceCtorEq, Int.reduceEq, Int.reduceNe, Int.reduceLT, Int.reduceLE, Int.reduceToNat]
                  refine ⟨by omega, by omega, ⟨by omega, by omega⟩, hR _ (i + 1) ⟨by omega, by omega, fun j h j1 j2 => ?_⟩ (by omega) rfl⟩
                  rcases Nat.lt_or_ge j i with hj | hj
                  · exact i3 j h j1 hj
                  · have : j = i := by omega
                    subst this
                    exact hd.2 ⟨of_decide_eq_false g1, of_decide_eq_false g2⟩
            · have c1 : decide ((i : Int) < 5) = false := decide_eq_false (by omega)
              rw [allT fun j h j1 => i3 j h j1 (by omega)]
              simp only [b_rperson_0, t_rperson_0, r_rperson, c1, go_sem, Nat.reduceDiv, Nat.reduceMod, ↓reduceIte, Nat.reduceEqDiff, Nat.reduceBEq, Nat.reduceSub, Nat.reduceLT, Nat.reduceAdd, Nat.reduceLeDiff, reduceCtorEq, Int.reduceEq, Int.reduceNe, Int.reduceLT, Int.reduceLE, Int.reduceToNat])
        · have d7 : decide ((z.length : Int) = 5) = false := decide_eq_false (by omega)
          have e5 : decide (z.length = 5) = false := decide_eq_false h5
          simp only [c_rperson, r_rperson, rhasS, h1, h2, d3, d4, d5, d6, d7, e5, Bool.and_false, Bool.false_and, go_sem, Nat.reduceDiv, Nat.reduceMod, ↓reduceIte, Nat.reduceEqDiff, Nat.reduceBEq, Nat.reduceSub, Nat.reduceLT, Nat.reduceAdd, Nat.reduceLeDiff, reduceCtorEq, Int.reduceEq, Int.reduceNe, Int.reduceLT, Int.reduceLE, Int.reduceToNat]
          exact ⟨p1, p2⟩
  · cases hs
end Go.Proofs.YtlkaaoekbmegkaaGreatDoor
namespace Go.Proofs.YtlkaaoekbmegkaaGreatDoor
set_option linter.all false
open Go.RowKit
def c_rword : ACode := (.seq (.reg none [⟨(some 2), (.mv (.c (.str []))), none⟩]) (.seq (.seq (.reg none [⟨(some 3), (.mv (.t 0)), none⟩]) (.block 0 (.seq (.reg none [⟨(some 5), (.bin .eql (.t 3) (.c (.int .i64 1))), none⟩, ⟨(some 4), (.mv (.t 5)), none⟩]) (.cond (.t 4) (.seq (.reg none [⟨(some 2), (.mv (.c (.str [99, 111, 109, 109, 105, 116]))), none⟩]) .ret) (.seq (.reg none [⟨(some 7), (.bin .eql (.t 3) (.c (.int .i64 2))), none⟩, ⟨(some 6), (.mv (.t 7)), none⟩]) (.cond (.t 6) (.seq (.reg none [⟨(some 2), (.mv (.c (.str [116, 114, 101, 101]))), none⟩]) .ret) (.seq (.reg none [⟨(some 9), (.bin .eql (.t 3) (.c (.int .i64 3))), none⟩, ⟨(some 8), (.mv (.t 9)), none⟩]) (.cond (.t 8) (.seq (.reg none [⟨(some 2), (.mv (.c (.str [98, 108, 111, 98]))), none⟩]) .ret) (.seq (.reg none [⟨(some 11), (.bin .eql (.t 3) (.c (.int .i64 4))), none⟩, ⟨(some 10), (.mv (.t 11)), none⟩]) (.cond (.t 10) (.seq (.reg none [⟨(some 2), (.mv (.c (.str [116, 97, 103]))), none⟩]) .ret) .skip)))))))))) (.seq (.reg none [⟨(some 2), (.mv (.c (.str []))), none⟩]) .ret)))
def r_rword : List ARes := [(.t 2)]
theorem s_rword : slimF Tryz.prog Tryz.f57 = some (c_rword, r_rword) := by kernel_rfl
theorem rword_ok : FnOk Tryz.prog 57 wordS := by
  refine fn_slim2 Tryz.func57 s_rword (Φ := phiL []) phi_nil ?_
  intro xs hp r hs hp'
  unfold wordS at hs
  split at hs
  · injection hs with hs; subst hs
    rename_i k
    refine ⟨len_le (by kernel_rfl), ?_⟩
    simp only [c_rword, r_rword, go_sem, Nat.reduceDiv, Nat.reduceMod, ↓reduceIte, Nat.reduceEqDiff, Nat.reduceBEq, Nat.reduceSub, Nat.reduceLT, Nat.reduceAdd, Nat.reduceLeDiff, reduceCtorEq, Int.reduceEq, Int.reduceNe, Int.reduceLT, Int.reduceLE, Int.reduceToNat]
    refine ⟨fun h => by rw [of_decide_eq_true h]; rfl, fun h1 => ⟨fun h => by rw [of_decide_eq_true h]; rfl, fun h2 => ⟨fun h => by rw [of_decide_eq_true h]; rfl, fun h3 => ⟨fun h => by rw [of_decide_eq_true h]; rfl, fun h4 => ?_⟩⟩⟩⟩
    have h1 := of_decide_eq_false h1
    have h2 := of_decide_eq_false h2
    have h3 := of_decide_eq_false h3
    have h4 := of_decide_eq_false h4
    rw [wordL_out (by omega)]
  · cases hs
end Go.Proofs.YtlkaaoekbmegkaaGreatDoor
namespace Go.Proofs.YtlkaaoekbmegkaaGreatDoor
set_option linter.all false
open Go.RowKit
open Go.Lib (index hasPrefix cut indexAny itoa)
def rtextS : Spec := fun xs hp => match xs, hp with
  | [.agg [(1, .str n), (1, .str m), (1, .int .i64 t), (1, .str z)]], [] => some ⟨.str (textW ⟨n, m, t, z⟩), [], n.length ≤ 1000000000000 ∧ m.length ≤ 1000000000000 ∧ z.length ≤ 1000000000000 ∧ inI t⟩
  | _, _ => none
theorem rtext_ok : FnOk Tryz.prog 18 rtextS := by
  refine fn_slim2 Tryz.func18 s_rtext (Φ := phiL [(43, [], itoaS)]) (phi_cons rdec_ok (by kernel_rfl) phi_nil) ?_
  intro xs hp r hs hp'
  unfold rtextS at hs
  split at hs
  · injection hs with hs; subst hs
    rename_i n m t z
    obtain ⟨p1, p2, p3, p4⟩ := hp'
    refine ⟨len_le (by kernel_rfl), ?_⟩
    have hi := Lib.itoa_length_le t p4.1 p4.2
    simp only [c_rtext, r_rtext, itoaS, textW, go_sem, Nat.reduceDiv, Nat.reduceMod, ↓reduceIte, Nat.reduceEqDiff, Nat.reduceBEq, Nat.reduceSub, Nat.reduceLT, Nat.reduceAdd, Nat.reduceLeDiff, reduceCtorEq, Int.reduceEq, Int.reduceNe, Int.reduceLT, Int.reduceLE, Int.reduceToNat]
    simp only [List.length_append, List.length_cons, List.length_nil]
    repeat' apply And.intro
    all_goals first | omega | rfl | exact p4 | exact p4.1 | exact p4.2 | (first | omega | (simp only [lenOk, bytesOk, inI, IntKind.bits, List.length_append, Bs_len, List.length_cons, List.length_nil, List.length_map, List.length_take, List.length_drop, List.length_replicate]; omega)) | (simp; done) | skip
  · cases hs
def rvalueS : Spec := fun xs hp => match xs, hp with
  | [.str s], [] => some ⟨.str (subst1 10 [10, 32] s), [], s.length ≤ 1000000000⟩
  | _, _ => none
theorem subst1_take {c : UInt8} {new s : List UInt8} {i : Nat} (h : i < s.length) : subst1 c new (s.take (i + 1)) = subst1 c new (s.take i) ++ (if s[i] = c then new else [s[i]]) := by
  rw [List.take_add_one, List.getElem?_eq_getElem h, Option.toList_some, subst1_app]
  simp [subst1]
theorem u8_10 {b : UInt8} : ((b.toNat : Int) = 10) ↔ b = 10 :=
  ⟨fun h => UInt8.toNat_inj.1 (by
    have h1 : b.toNat = 10 := by omega
    rw [h1]; rfl), fun h => by rw [h]; rfl⟩
theorem rvalue_ok : FnOk Tryz.prog 39 rvalueS := by
  refine fn_slim2 Tryz.func39 s_rvalue (Φ := phiL []) phi_nil ?_
  intro xs hp r hs hp'
  unfold rvalueS at hs
  split at hs
  · injection hs with hs; subst hs
    rename_i s
    have p1 : s.length ≤ 1000000000 := hp'
    refine ⟨len_le (by kernel_rfl), ?_⟩
    simp only [c_rvalue, go_sem, Nat.reduceDiv, Nat.reduceMod, ↓reduceIte, Nat.reduceEqDiff, Nat.reduceBEq, Nat.reduceSub, Nat.reduceLT, Nat.reduceAdd, Nat.reduceLeDiff, reduceCtorEq, Int.reduceEq, Int.reduceNe, Int.reduceLT, Int.reduceLE, Int.reduceToNat]
    refine loop2P [(3, 5, 1)] [0, 3, 4] [0] (fun q : Nat × Nat × List UInt8 => ⟨[(0, .str s), (3, .own 0 q.2.1), (4, .int .i64 (q.1 : Int))], [.row 5 1 q.2.1 (Bs q.2.2)]⟩) (fun q => q.1 ≤ s.length ∧ q.2.2 = subst1 10 [10, 32] (s.take q.1) ∧ q.2.2.length ≤ 2 * q.1) (fun q => s.length - q.1) (0, 0, []) rfl ⟨Nat.zero_le _, by simp [subst1], by simp⟩ ⟨rfl, by rfl⟩ (fun q hq R hR => ?_)
    obtain ⟨i, v, acc⟩ := q
    simp only at hq
    obtain ⟨i1, i2, i3⟩ := hq
    simp only at hR ⊢
    by_cases hil : i < s.length
    · have c1 : decide ((i : Int) < (s.length : Int)) = true := decide_eq_true (by omega)
      have hst := subst1_take (c := 10) (new := [10, 32]) hil
      have ha := at8_lit hil
      have hb1 : ∀ l : List UInt8, Bs l ++ [.int .u8 (((s[i]).toNat : Nat) : Int)] = Bs (l ++ [s[i]]) := fun l => Bs_push
      have hb2 : ∀ l : List UInt8, Bs l ++ [.int .u8 32] = Bs (l ++ [32]) := fun l => Bs_push (u := 32)
      by_cases h10 : s[i] = 10
      · have d : decide (((s[i]).toNat : Int) = 10) = true := decide_eq_true (by rw [h10]; rfl)
        rw [if_pos h10] at hst
        simp only [b_rvalue_0, c1, ha, d, hb1, hb2, Int.toNat_natCast, Bs_len, go_sem, Nat.reduceDiv, Nat.reduceMod, ↓reduceIte, Nat.reduceEqDiff, Nat.reduceBEq, Nat.reduceSub, Nat.reduceLT, Nat.reduceAdd, Nat.reduceLeDiff, reduceCtorEq, Int.reduceEq, Int.reduceNe, Int.reduceLT, Int.reduceLE, Int.reduceToNat]
        refine ⟨⟨by omega, by omega⟩, ⟨by (first | omega | (simp only [lenOk, bytesOk, inI, IntKind.bits, List.length_append, Bs_len, List.length_cons, List.length_nil, List.length_map, List.length_take, List.length_drop, List.length_replicate]; omega)), by (first | omega | (simp only [lenOk, bytesOk, inI, IntKind.bits, List.length_append, Bs_len, List.length_cons, List.length_nil, List.length_map, List.length_take, List.length_drop, List.length_replicate]; omega))⟩, ⟨by omega, by omega⟩, ⟨by (first | omega | (simp only [lenOk, bytesOk, inI, IntKind.bits, List.length_append, Bs_len, List.length_cons, List.length_nil, List.length_map, List.length_take, List.length_drop, List.length_replicate]; omega)), by (first | omega | (simp only [lenOk, bytesOk, inI, IntKind.bits, List.length_append, Bs_len, List.length_cons, List.length_nil, List.length_map, List.length_take, List.length_drop, List.length_replicate]; omega))⟩, ⟨by omega, by omega⟩, hR _ (i + 1, v + 1 + 1, acc ++ [s[i]] ++ [32]) ⟨by simp only; omega, ?_, ?_⟩ (by simp only; omega) rfl⟩
        · simp only; rw [hst, i2, h10, List.append_assoc]; rfl
        · simp only [List.length_append, List.length_cons, List.length_nil]; omega
      · have d : decide (((s[i]).toNat : Int) = 10) = false := decide_eq_false (fun h => h10 (u8_10.1 h))
        rw [if_neg h10] at hst
        simp only [b_rvalue_0, c1, ha, d, hb1, hb2, Int.toNat_natCast, Bs_len, go_sem, Nat.reduceDiv, Nat.reduceMod, ↓reduceIte, Nat.reduceEqDiff, Nat.reduceBEq, Nat.reduceSub, Nat.reduceLT, Nat.reduceAdd, Nat.reduceLeDiff, reduceCtorEq, Int.reduceEq, Int.reduceNe, Int.reduceLT, Int.reduceLE, Int.reduceToNat]
        refine ⟨⟨by omega, by omega⟩, ⟨by (first | omega | (simp only [lenOk, bytesOk, inI, IntKind.bits, List.length_append, Bs_len, List.length_cons, List.length_nil, List.length_map, List.length_take, List.length_drop, List.length_replicate]; omega)), by (first | omega | (simp only [lenOk, bytesOk, inI, IntKind.bits, List.length_append, Bs_len, List.length_cons, List.length_nil, List.length_map, List.length_take, List.length_drop, List.length_replicate]; omega))⟩, ⟨by omega, by omega⟩, ⟨by omega, by omega⟩, hR _ (i + 1, v + 1, acc ++ [s[i]]) ⟨by simp only; omega, ?_, ?_⟩ (by simp only; omega) rfl⟩
        · simp only; rw [hst, i2]
        · simp only [List.length_append, List.length_cons, List.length_nil]; omega
    · have c1 : decide ((i : Int) < (s.length : Int)) = false := decide_eq_false (by omega)
      have e : s.take i = s := List.take_of_length_le (by omega)
      rw [e] at i2
      subst i2
      simp only [b_rvalue_0, t_rvalue_0, r_rvalue, c1, unB_Bs, go_sem, Nat.reduceDiv, Nat.reduceMod, ↓reduceIte, Nat.reduceEqDiff, Nat.reduceBEq, Nat.reduceSub, Nat.reduceLT, Nat.reduceAdd, Nat.reduceLeDiff, reduceCtorEq, Int.reduceEq, Int.reduceNe, Int.reduceLT, Int.reduceLE, Int.reduceToNat]
  · cases hs
def rextraS : Spec := fun xs hp => match xs, hp with
  | [.agg [(1, .str k), (1, .str v)]], [] => some ⟨.bool (extraB k), [], k.length ≤ 1000000000000⟩
  | _, _ => none
theorem keyB_no {k : List UInt8} (h1 : k ≠ [116, 114, 101, 101]) (h2 : k ≠ [112, 97, 114, 101, 110, 116]) (h3 : k ≠ [97, 117, 116, 104, 111, 114]) (h4 : k ≠ [99, 111, 109, 109, 105, 116, 116, 101, 114]) : keyB k = false := by
  rw [← keyB_eq]; simp [h1, h2, h3, h4]
theorem rextra_ok : FnOk Tryz.prog 37 rextraS := by
  refine fn_slim2 Tryz.func37 s_rextra (Φ := phiL [(42, [], rhasS)]) (phi_cons rhas_ok (by kernel_rfl) phi_nil) ?_
  intro xs hp r hs hp'
  unfold rextraS at hs
  split at hs
  · injection hs with hs; subst hs
    rename_i k v
    have p1 : k.length ≤ 1000000000000 := hp'
    refine ⟨len_le (by kernel_rfl), ?_⟩
    by_cases h0 : k = []
    · subst h0
      simp only [c_rextra, r_rextra, decide_true, go_sem, Nat.reduceDiv, Nat.reduceMod, ↓reduceIte, Nat.reduceEqDiff, Nat.reduceBEq, Nat.reduceSub, Nat.reduceLT, Nat.reduceAdd, Nat.reduceLeDiff, reduceCtorEq, Int.reduceEq, Int.reduceNe, Int.reduceLT, Int.reduceLE, Int.reduceToNat]
      rfl
    · have d0 : decide (k = []) = false := decide_eq_false h0
      have d0' : decide (k ≠ []) = true := decide_eq_true h0
      unfold extraB
      rw [d0']
      cases hh : hasL [32, 10] k with
      | true =>
        simp only [c_rextra, r_rextra, rhasS, d0, hh, Bool.not_true, Bool.and_false, Bool.false_and, go_sem, Nat.reduceDiv, Nat.reduceMod, ↓reduceIte, Nat.reduceEqDiff, Nat.reduceBEq, Nat.reduceSub, Nat.reduceLT, Nat.reduceAdd, Nat.reduceLeDiff, reduceCtorEq, Int.reduceEq, Int.reduceNe, Int.reduceLT, Int.reduceLE, Int.reduceToNat]
        exact p1
      | false =>
        by_cases h1 : k = [116, 114, 101, 101]
        · have d1 : decide (k = [116, 114, 101, 101]) = true := decide_eq_true h1
          have e : keyB k = true := by rw [h1]; rfl
          simp only [c_rextra, r_rextra, rhasS, d0, d1, hh, e, Bool.not_true, Bool.and_false, go_sem, Nat.reduceDiv, Nat.reduceMod, ↓reduceIte, Nat.reduceEqDiff, Nat.reduceBEq, Nat.reduceSub, Nat.reduceLT, Nat.reduceAdd, Nat.reduceLeDiff, reduceCtorEq, Int.reduceEq, Int.reduceNe, Int.reduceLT, Int.reduceLE, Int.reduceToNat]
          exact p1
        have d1 : decide (k = [116, 114, 101, 101]) = false := decide_eq_false h1
        by_cases h2 : k = [112, 97, 114, 101, 110, 116]
        · have d2 : decide (k = [112, 97, 114, 101, 110, 116]) = true := decide_eq_true h2
          have e : keyB k = true := by rw [h2]; rfl
          simp only [c_rextra, r_rextra, rhasS, d0, d1, d2, hh, e, Bool.not_true, Bool.and_false, go_sem, Nat.reduceDiv, Nat.reduceMod, ↓reduceIte, Nat.reduceEqDiff, Nat.reduceBEq, Nat.reduceSub, Nat.reduceLT, Nat.reduceAdd, Nat.reduceLeDiff, reduceCtorEq, Int.reduceEq, Int.reduceNe, Int.reduceLT, Int.reduceLE, Int.reduceToNat]
          exact p1
        have d2 : decide (k = [112, 97, 114, 101, 110, 116]) = false := decide_eq_false h2
        by_cases h3 : k = [97, 117, 116, 104, 111, 114]
        · have d3 : decide (k = [97, 117, 116, 104, 111, 114]) = true := decide_eq_true h3
          have e : keyB k = true := by rw [h3]; rfl
          simp only [c_rextra, r_rextra, rhasS, d0, d1, d2, d3, hh, e, Bool.not_true, Bool.and_false, go_sem, Nat.reduceDiv, Nat.reduceMod, ↓reduceIte, Nat.reduceEqDiff, Nat.reduceBEq, Nat.reduceSub, Nat.reduceLT, Nat.reduceAdd, Nat.reduceLeDiff, reduceCtorEq, Int.reduceEq, Int.reduceNe, Int.reduceLT, Int.reduceLE, Int.reduceToNat]
          exact p1
        have d3 : decide (k = [97, 117, 116, 104, 111, 114]) = false := decide_eq_false h3
        by_cases h4 : k = [99, 111, 109, 109, 105, 116, 116, 101, 114]
        · have d4 : decide (k = [99, 111, 109, 109, 105, 116, 116, 101, 114]) = true := decide_eq_true h4
          have e : keyB k = true := by rw [h4]; rfl
          simp only [c_rextra, r_rextra, rhasS, d0, d1, d2, d3, d4, hh, e, Bool.not_true, Bool.and_false, go_sem, Nat.reduceDiv, Nat.reduceMod, ↓reduceIte, Nat.reduceEqDiff, Nat.reduceBEq, Nat.reduceSub, Nat.reduceLT, Nat.reduceAdd, Nat.reduceLeDiff, reduceCtorEq, Int.reduceEq, Int.reduceNe, Int.reduceLT, Int.reduceLE, Int.reduceToNat]
          exact p1
        have d4 : decide (k = [99, 111, 109, 109, 105, 116, 116, 101, 114]) = false := decide_eq_false h4
        have e := keyB_no h1 h2 h3 h4
        simp only [c_rextra, r_rextra, rhasS, d0, d1, d2, d3, d4, hh, e, Bool.not_false, Bool.and_true, go_sem, Nat.reduceDiv, Nat.reduceMod, ↓reduceIte, Nat.reduceEqDiff, Nat.reduceBEq, Nat.reduceSub, Nat.reduceLT, Nat.reduceAdd, Nat.reduceLeDiff, reduceCtorEq, Int.reduceEq, Int.reduceNe, Int.reduceLT, Int.reduceLE, Int.reduceToNat]
        exact p1
  · cases hs
def rrightS11 : Spec := fun xs hp => match xs, hp with
  | [.agg [(20, .blob t), (1, .sl kq ps), (1, .str an), (1, .str am), (1, .int .i64 at'), (1, .str az), (1, .str cn), (1, .str cm), (1, .int .i64 ct), (1, .str cz), (1, .sl ke es), (1, .str m)]], [] =>
    some ⟨.bool (rightC ⟨unV t, ps.map unId, ⟨an, am, at', az⟩, ⟨cn, cm, ct, cz⟩, es.map unEx, m⟩), [], es = (es.map unEx).map exV ∧ (ke = 2 ∨ es = []) ∧ es.length ≤ 1000000 ∧ (∀ x ∈ es.map unEx, x.1.length ≤ 1000000000000) ∧ an.length + am.length + az.length ≤ 1000000000 ∧ cn.length + cm.length + cz.length ≤ 1000000000⟩
  | _, _ => none
theorem rright11_ok : FnOk Tryz.prog 10 rrightS11 := by
  refine fn_slim2 Tryz.func10 s_rright11 (Φ := phiL [(37, [], rextraS), (16, [], rpersonS)]) (phi_cons rextra_ok (by kernel_rfl) (phi_cons rperson_ok (by kernel_rfl) phi_nil)) ?_
  intro xs hp r hs hp'
  unfold rrightS11 at hs
  split at hs
  · injection hs with hs; subst hs
    rename_i t kq ps an am at' az cn cm ct cz ke es m
    obtain ⟨q1, q2, q3, q4, q5, q6⟩ := hp'
    generalize unV t = t1 at *
    generalize ps.map unId = ps1 at *
    generalize es.map unEx = es at *
    subst q1
    rw [List.length_map] at q3
    refine ⟨len_le (by kernel_rfl), ?_⟩
    simp only [c_rright11, go_sem, Nat.reduceDiv, Nat.reduceMod, ↓reduceIte, Nat.reduceEqDiff, Nat.reduceBEq, Nat.reduceSub, Nat.reduceLT, Nat.reduceAdd, Nat.reduceLeDiff, reduceCtorEq, Int.reduceEq, Int.reduceNe, Int.reduceLT, Int.reduceLE, Int.reduceToNat]
    refine loop2P [] [1, 3] [0] (fun i : Nat => ⟨[(1, .ref 0 0 0), (3, .int .i64 (i : Int))], [.cells 28 [(20, .blob t), (1, .sl kq ps), (1, .str an), (1, .str am), (1, .int .i64 at'), (1, .str az), (1, .str cn), (1, .str cm), (1, .int .i64 ct), (1, .str cz), (1, .sl ke (es.map exV)), (1, .str m)]]⟩) (fun i => i ≤ es.length ∧ ∀ x ∈ es.take i, badE x = false) (fun i => es.length - i) 0 rfl ⟨by omega, by simp⟩ ⟨rfl, by rfl⟩ (fun i hi R hR => ?_)
    obtain ⟨i1, i2⟩ := hi
    by_cases hil : i < es.length
    · have c1 : decide ((i : Int) < (es.length : Int)) = true := decide_eq_true (by omega)
      have hk : ke = 2 := q2.resolve_right (by intro h; have := congrArg List.length h; simp at this; rw [this] at hil; simp at hil)
      subst hk
      have hget := getD_map exV es ([], []) (.agg [(1, (.str [])), (1, (.str []))]) hil
      have hga : es.getD i ([], []) = es[i] := by simp [List.getD_eq_getElem?_getD, List.getElem?_eq_getElem hil]
      have hlen := q4 es[i] (List.getElem_mem _)
      cases hx : extraB es[i].1 with
      | false =>
        have hb : es.any badE = true := List.any_eq_true.2 ⟨es[i], List.getElem_mem _, by unfold badE; rw [hx]; rfl⟩
        rw [rightC_e (c := ⟨t1, ps1, ⟨an, am, at', az⟩, ⟨cn, cm, ct, cz⟩, es, m⟩) hb]
        simp only [b_rright11_0, r_rright11, rextraS, c1, hget, hga, exV, hx, Int.toNat_natCast, go_sem, Nat.reduceDiv, Nat.reduceMod, ↓reduceIte, Nat.reduceEqDiff, Nat.reduceBEq, Nat.reduceSub, Nat.reduceLT, Nat.reduceAdd, Nat.reduceLeDiff, reduceCtorEq, Int.reduceEq, Int.reduceNe, Int.reduceLT, Int.reduceLE, Int.reduceToNat]
        exact ⟨⟨by omega, by omega⟩, hlen⟩
      | true =>
        simp only [b_rright11_0, r_rright11, rextraS, c1, hget, hga, exV, hx, Int.toNat_natCast, go_sem, Nat.reduceDiv, Nat.reduceMod, ↓reduceIte, Nat.reduceEqDiff, Nat.reduceBEq, Nat.reduceSub, Nat.reduceLT, Nat.reduceAdd, Nat.reduceLeDiff, reduceCtorEq, Int.reduceEq, Int.reduceNe, Int.reduceLT, Int.reduceLE, Int.reduceToNat]
        refine ⟨⟨by omega, by omega⟩, hlen, ⟨by omega, by omega⟩, hR _ (i + 1) ⟨by omega, fun x hx2 => ?_⟩ (by omega) rfl⟩
        rw [List.take_add_one, List.getElem?_eq_getElem hil, Option.toList_some, List.mem_append, List.mem_singleton] at hx2
        rcases hx2 with hx2 | rfl
        · exact i2 x hx2
        · unfold badE; rw [hx]; rfl
    · have c1 : decide ((i : Int) < (es.length : Int)) = false := decide_eq_false (by omega)
      have e : es.take i = es := List.take_of_length_le (by omega)
      rw [e] at i2
      have hb : es.any badE = false := by
        rw [List.any_eq_false]; intro x hx; rw [i2 x hx]; simp
      unfold rightC
      simp only [hb, Bool.not_false, Bool.and_true]
      cases h1 : rightW ⟨an, am, at', az⟩
      all_goals (
        simp only [b_rright11_0, t_rright11_0, r_rright11, rpersonS, c1, h1, Bool.false_and, Bool.true_and, go_sem, Nat.reduceDiv, Nat.reduceMod, ↓reduceIte, Nat.reduceEqDiff, Nat.reduceBEq, Nat.reduceSub, Nat.reduceLT, Nat.reduceAdd, Nat.reduceLeDiff, reduceCtorEq, Int.reduceEq, Int.reduceNe, Int.reduceLT, Int.reduceLE, Int.reduceToNat]
        repeat' apply And.intro
        all_goals first | omega | rfl | trivial)
  · cases hs
end Go.Proofs.YtlkaaoekbmegkaaGreatDoor
namespace Go.Proofs.YtlkaaoekbmegkaaGreatDoor
set_option linter.all false
open Go.RowKit
open Go.Lib (index hasPrefix cut indexAny itoa)
def objW : List UInt8 := [111, 98, 106, 101, 99, 116, 32]
def typW : List UInt8 := [116, 121, 112, 101, 32]
def tagW : List UInt8 := [116, 97, 103, 32]
def tgrW : List UInt8 := [116, 97, 103, 103, 101, 114, 32]
def tM (s : List UInt8) := mustG s false objW
def tB0 (s : List UInt8) : Bool := (tM s).2.2 || !goodQ (tM s).1
def tK (s : List UInt8) := mustG (tM s).2.1 (tB0 s) typW
def tN (s : List UInt8) := mustG (tK s).2.1 (tK s).2.2 tagW
def tW (s : List UInt8) := mustG (tN s).2.1 (tN s).2.2 tgrW
noncomputable def tB1 (s : List UInt8) : Bool := (tW s).2.2 || !personB (tW s).1
noncomputable def tE (s : List UInt8) := mustG (tW s).2.1 (tB1 s) []
noncomputable def parT11 (s : List UInt8) : TagL := ⟨pOut (tM s).1, kindN (tK s).1, (tN s).1, personV (tW s).1, (tE s).2.1⟩
noncomputable def parBT11 (s : List UInt8) : Bool := !(tE s).2.2 && !decide (kindN (tK s).1 = 0) && !decide ((tN s).1 = []) && decide ((tE s).1 = [])
def tagPs (o : List UInt8) (k : Int) (n : List UInt8) (w : WhoL) (m : List UInt8) : List (Nat × AV) :=
  [(20, .blob (o.map U)), (1, .int .i64 k), (1, .str n), (1, .str w.name), (1, .str w.mail), (1, .int .i64 w.time), (1, .str w.zone), (1, .str m)]
def tag0 : List (Nat × AV) := tagPs z20L 0 [] who0 []
def parRT11 (t : TagL) (ok : Bool) (pr : Prop) : Option Ret := if ok = true then
    some ⟨.tup [.agg (tagPs t.object t.kind t.name t.tagger t.message), .int .i64 0], [], pr⟩
  else some ⟨.tup [.agg tag0, .int .i64 4], [], pr⟩
noncomputable def cpartS : Spec := fun xs hp => match xs, hp with
  | [.sl 1 bs], [] => parRT11 (parT11 (unB bs)) (parBT11 (unB bs)) (bs = Bs (unB bs) ∧ bs.length ≤ 1000000)
  | _, _ => none
theorem parRT11_pre {c : TagL} {ok : Bool} {pr : Prop} {r : Ret} (h : parRT11 c ok pr = some r) (hr : r.pre) : pr := by
  unfold parRT11 at h
  split at h <;> (injection h with h; subst h; exact hr)
set_option maxHeartbeats 4000000 in
theorem cpart_ok : FnOk Tryz.prog 23 cpartS := by
  refine fn_slim2 Tryz.func23 s_cpart phiPar_ok ?_
  intro xs hp r hs hp'
  unfold cpartS at hs
  split at hs
  · rename_i bs
    obtain ⟨q1, p1⟩ := parRT11_pre hs hp'
    generalize unB bs = s at *
    subst q1
    rw [Bs_len] at p1
    refine ⟨len_le (by kernel_rfl), ?_⟩
    have hM : mustG s false [111, 98, 106, 101, 99, 116, 32] = tM s := rfl
    have hB0 : ((tM s).2.2 || !goodQ (tM s).1) = tB0 s := rfl
    have hK : mustG (tM s).2.1 (tB0 s) [116, 121, 112, 101, 32] = tK s := rfl
    have hN : mustG (tK s).2.1 (tK s).2.2 [116, 97, 103, 32] = tN s := rfl
    have hW : mustG (tN s).2.1 (tN s).2.2 [116, 97, 103, 103, 101, 114, 32] = tW s := rfl
    have hB1 : ((tW s).2.2 || !personB (tW s).1) = tB1 s := rfl
    have hE : mustG (tW s).2.1 (tB1 s) [] = tE s := rfl
    have l1 : (tM s).2.1.length ≤ s.length := (mustG_len _ _ _).2
    have l2 : (tK s).2.1.length ≤ (tM s).2.1.length := (mustG_len _ _ _).2
    have l3 : (tN s).2.1.length ≤ (tK s).2.1.length := (mustG_len _ _ _).2
    have l4 : (tW s).2.1.length ≤ (tN s).2.1.length := (mustG_len _ _ _).2
    have l5 : (tE s).2.1.length ≤ (tW s).2.1.length := (mustG_len _ _ _).2
    have bad : parBT11 s = false → r = ⟨.tup [.agg tag0, .int .i64 4], [], r.pre⟩ := by
      intro h
      unfold parRT11 at hs
      rw [if_neg (by rw [h]; simp)] at hs
      injection hs with hs; subst hs; rfl
    have fin : s.length ≤ 1000000000 ∧ (tM s).2.1.length ≤ 1000000000 ∧ (tK s).2.1.length ≤ 1000000000 ∧ (tN s).2.1.length ≤ 1000000000 ∧ (tW s).2.1.length ≤ 1000000000 := by omega
    cases h1 : (tE s).2.2 with
    | true =>
      rw [bad (by unfold parBT11; rw [h1]; rfl)]
      simp only [c_cpart, r_cpart, tagPs, tag0, who0, phiPar_1, phiPar_2, phiPar_4, phiPar_6, cidS, cwhoS, mustS, kindS, whoP, unB_Bs, z20U, pOut_len, hM, hB0, hK, hN, hW, hB1, hE, h1, go_sem, Nat.reduceDiv, Nat.reduceMod, ↓reduceIte, Nat.reduceEqDiff, Nat.reduceBEq, Nat.reduceSub, Nat.reduceLT, Nat.reduceAdd, Nat.reduceLeDiff, reduceCtorEq, Int.reduceEq, Int.reduceNe, Int.reduceLT, Int.reduceLE, Int.reduceToNat]
      exact fin
    | false =>
      cases h2 : decide (kindN (tK s).1 = 0) with
      | true =>
        rw [bad (by unfold parBT11; rw [h1, h2]; rfl)]
        simp only [c_cpart, r_cpart, tagPs, tag0, who0, phiPar_1, phiPar_2, phiPar_4, phiPar_6, cidS, cwhoS, mustS, kindS, whoP, unB_Bs, z20U, pOut_len, hM, hB0, hK, hN, hW, hB1, hE, h1, h2, go_sem, Nat.reduceDiv, Nat.reduceMod, ↓reduceIte, Nat.reduceEqDiff, Nat.reduceBEq, Nat.reduceSub, Nat.reduceLT, Nat.reduceAdd, Nat.reduceLeDiff, reduceCtorEq, Int.reduceEq, Int.reduceNe, Int.reduceLT, Int.reduceLE, Int.reduceToNat]
        exact fin
      | false =>
        cases h3 : decide ((tN s).1 = []) with
        | true =>
          rw [bad (by unfold parBT11; rw [h1, h2, h3]; rfl)]
          simp only [c_cpart, r_cpart, tagPs, tag0, who0, phiPar_1, phiPar_2, phiPar_4, phiPar_6, cidS, cwhoS, mustS, kindS, whoP, unB_Bs, z20U, pOut_len, hM, hB0, hK, hN, hW, hB1, hE, h1, h2, h3, go_sem, Nat.reduceDiv, Nat.reduceMod, ↓reduceIte, Nat.reduceEqDiff, Nat.reduceBEq, Nat.reduceSub, Nat.reduceLT, Nat.reduceAdd, Nat.reduceLeDiff, reduceCtorEq, Int.reduceEq, Int.reduceNe, Int.reduceLT, Int.reduceLE, Int.reduceToNat]
          exact fin
        | false =>
          cases h4 : decide ((tE s).1 = []) with
          | false =>
            rw [bad (by unfold parBT11; rw [h4]; simp)]
            simp only [c_cpart, r_cpart, tagPs, tag0, who0, phiPar_1, phiPar_2, phiPar_4, phiPar_6, cidS, cwhoS, mustS, kindS, whoP, unB_Bs, z20U, pOut_len, hM, hB0, hK, hN, hW, hB1, hE, h1, h2, h3, h4, go_sem, Nat.reduceDiv, Nat.reduceMod, ↓reduceIte, Nat.reduceEqDiff, Nat.reduceBEq, Nat.reduceSub, Nat.reduceLT, Nat.reduceAdd, Nat.reduceLeDiff, reduceCtorEq, Int.reduceEq, Int.reduceNe, Int.reduceLT, Int.reduceLE, Int.reduceToNat]
            exact fin
          | true =>
            have ok : parBT11 s = true := by unfold parBT11; rw [h1, h2, h3, h4]; rfl
            unfold parRT11 at hs
            rw [if_pos ok] at hs
            injection hs with hs; subst hs
            unfold parT11
            simp only [c_cpart, r_cpart, tagPs, tag0, who0, phiPar_1, phiPar_2, phiPar_4, phiPar_6, cidS, cwhoS, mustS, kindS, whoP, unB_Bs, z20U, pOut_len, hM, hB0, hK, hN, hW, hB1, hE, h1, h2, h3, h4, go_sem, Nat.reduceDiv, Nat.reduceMod, ↓reduceIte, Nat.reduceEqDiff, Nat.reduceBEq, Nat.reduceSub, Nat.reduceLT, Nat.reduceAdd, Nat.reduceLeDiff, reduceCtorEq, Int.reduceEq, Int.reduceNe, Int.reduceLT, Int.reduceLE, Int.reduceToNat]
            exact fin
  · cases hs
end Go.Proofs.YtlkaaoekbmegkaaGreatDoor
namespace Go.Proofs.YtlkaaoekbmegkaaGreatDoor
set_option linter.all false
open Go.RowKit
open Go.Lib (index hasPrefix cut indexAny itoa)
def rprnS : Spec := fun xs hp => match xs, hp with
  | [.agg [(20, .blob t), (1, .sl kq ps), (1, .str an), (1, .str am), (1, .int .i64 at'), (1, .str az), (1, .str cn), (1, .str cm), (1, .int .i64 ct), (1, .str cz), (1, .sl ke es), (1, .str m)]], [] =>
    some ⟨.str (bodyC ⟨unV t, ps.map unId, ⟨an, am, at', az⟩, ⟨cn, cm, ct, cz⟩, es.map unEx, m⟩), [], t = (unV t).map U ∧ ps = (ps.map unId).map idAV ∧ es = (es.map unEx).map exV ∧ (kq = 20 ∨ ps = []) ∧ (ke = 2 ∨ es = []) ∧ sizeOkC ⟨unV t, ps.map unId, ⟨an, am, at', az⟩, ⟨cn, cm, ct, cz⟩, es.map unEx, m⟩ ∧ inI at' ∧ inI ct⟩
  | _, _ => none
set_option maxHeartbeats 2000000 in
theorem rprn_ok : FnOk Tryz.prog 12 rprnS := by
  refine fn_slim2 Tryz.func12 s_rprn (Φ := phiL [(38, [], rhexS), (18, [], rtextS), (39, [], rvalueS)]) (phi_cons rhex_ok (by kernel_rfl) (phi_cons rtext_ok (by kernel_rfl) (phi_cons rvalue_ok (by kernel_rfl) phi_nil))) ?_
  intro xs hp r hs hp'
  unfold rprnS at hs
  split at hs
  · injection hs with hs; subst hs
    rename_i t kq ps an am at' az cn cm ct cz ke es m
    obtain ⟨q1, q2, q3, q4, q5, q6, q7, q8⟩ := hp'
    generalize unV t = t at *
    subst q1
    generalize ps.map unId = ps at *
    subst q2
    generalize es.map unEx = es at *
    subst q3
    obtain ⟨z1, z2, z3, z0, z4, z5, z6, z7⟩ := q6
    simp only at z0 z1 z2 z3 z4 z5 z6 z7
    refine ⟨len_le (by kernel_rfl), ?_⟩
    have hh := hexL_length t
    unfold bodyC at z1
    simp only at z1
    unfold printC at z1
    simp only [List.length_append] at z1
    have hhc : (headC t).length = 6 + (hexL t).length := by simp only [headC, List.length_append, List.length_cons, List.length_nil]; omega
    simp only [c_rprn, rhexS, unV_U, hexI_eq, go_sem, Nat.reduceDiv, Nat.reduceMod, ↓reduceIte, Nat.reduceEqDiff, Nat.reduceBEq, Nat.reduceSub, Nat.reduceLT, Nat.reduceAdd, Nat.reduceLeDiff, reduceCtorEq, Int.reduceEq, Int.reduceNe, Int.reduceLT, Int.reduceLE, Int.reduceToNat]
    refine ⟨z2, by (first | omega | (simp only [lenOk, bytesOk, inI, IntKind.bits, List.length_append, Bs_len, List.length_cons, List.length_nil, List.length_map, List.length_take, List.length_drop, List.length_replicate]; omega)), by (first | omega | (simp only [lenOk, bytesOk, inI, IntKind.bits, List.length_append, Bs_len, List.length_cons, List.length_nil, List.length_map, List.length_take, List.length_drop, List.length_replicate]; omega)), ?_⟩
    refine loop2P [] [1, 3, 4] [0] (fun q : Nat × List UInt8 => ⟨[(1, .ref 0 0 0), (3, .str q.2), (4, .int .i64 (q.1 : Int))],
      [.cells 28 [(20, .blob (t.map U)), (1, .sl kq (ps.map idAV)), (1, .str an), (1, .str am), (1, .int .i64 at'), (1, .str az), (1, .str cn), (1, .str cm), (1, .int .i64 ct), (1, .str cz), (1, .sl ke (es.map exV)), (1, .str m)]]⟩)
      (fun q => q.1 ≤ ps.length ∧ q.2 = headC t ++ (ps.take q.1).flatMap parL) (fun q => ps.length - q.1) (0, headC t) rfl ⟨Nat.zero_le _, by simp⟩ ⟨rfl, by rfl⟩ (fun q hq R hR => ?_)
    obtain ⟨i, acc⟩ := q
    simp only at hq
    obtain ⟨hi, rfl⟩ := hq
    simp only at hi hR ⊢
    have hle := flatMap_take_le parL ps i
    by_cases hil : i < ps.length
    · have c1 : decide ((i : Int) < (ps.length : Int)) = true := decide_eq_true (by omega)
      have hk : kq = 20 := q4.resolve_right (by intro h; have := congrArg List.length h; simp at this; rw [this] at hil; simp at hil)
      subst hk
      have hget := getD_map idAV ps [] (.blob (List.replicate 20 (.int .u8 0))) hil
      have hga : ps.getD i [] = ps[i] := by simp [List.getD_eq_getElem?_getD, List.getElem?_eq_getElem hil]
      have hlen := z3 ps[i] (List.getElem_mem _)
      have hhx := hexL_length ps[i]
      have hle2 := flatMap_take_le parL ps (i + 1)
      rw [← flatMap_take parL ps hil, List.length_append] at hle2
      have hpl : (parL ps[i]).length = 8 + (hexL ps[i]).length := by simp only [parL, List.length_append, List.length_cons, List.length_nil]; omega
      simp only [b_rprn_0, rhexS, unV_U, hexI_eq, c1, hget, hga, idAV, Int.toNat_natCast, List.length_map, hlen, go_sem, Nat.reduceDiv, Nat.reduceMod, ↓reduceIte, Nat.reduceEqDiff, Nat.reduceBEq, Nat.reduceSub, Nat.reduceLT, Nat.reduceAdd, Nat.reduceLeDiff, reduceCtorEq, Int.reduceEq, Int.reduceNe, Int.reduceLT, Int.reduceLE, Int.reduceToNat]
      refine ⟨by (first | omega | (simp only [lenOk, bytesOk, inI, IntKind.bits, List.length_append, Bs_len, List.length_cons, List.length_nil, List.length_map, List.length_take, List.length_drop, List.length_replicate]; omega)), ⟨by omega, by omega⟩, by (first | omega | (simp only [lenOk, bytesOk, inI, IntKind.bits, List.length_append, Bs_len, List.length_cons, List.length_nil, List.length_map, List.length_take, List.length_drop, List.length_replicate]; omega)), by (first | omega | (simp only [lenOk, bytesOk, inI, IntKind.bits, List.length_append, Bs_len, List.length_cons, List.length_nil, List.length_map, List.length_take, List.length_drop, List.length_replicate]; omega)), ⟨by omega, by omega⟩, hR _ (i + 1, headC t ++ (ps.take (i + 1)).flatMap parL) ⟨by simp only; omega, rfl⟩ (by simp only; omega) ?_⟩
      simp only
      have e : headC t ++ (ps.take (i + 1)).flatMap parL = headC t ++ (ps.take i).flatMap parL ++ [112, 97, 114, 101, 110, 116, 32] ++ hexL ps[i] ++ [10] := by
        rw [← flatMap_take parL ps hil]; simp [parL]
      rw [e]
      rfl
    · have c1 : decide ((i : Int) < (ps.length : Int)) = false := decide_eq_false (by omega)
      obtain rfl : i = ps.length := by omega
      rw [List.take_length]
      have hmc : (midC (textW ⟨an, am, at', az⟩) (textW ⟨cn, cm, ct, cz⟩)).length = 19 + (textW ⟨an, am, at', az⟩).length + (textW ⟨cn, cm, ct, cz⟩).length := by simp only [midC, List.length_append, List.length_cons, List.length_nil]; omega
      simp only [b_rprn_0, t_rprn_1, rtextS, c1, go_sem, Nat.reduceDiv, Nat.reduceMod, ↓reduceIte, Nat.reduceEqDiff, Nat.reduceBEq, Nat.reduceSub, Nat.reduceLT, Nat.reduceAdd, Nat.reduceLeDiff, reduceCtorEq, Int.reduceEq, Int.reduceNe, Int.reduceLT, Int.reduceLE, Int.reduceToNat]
      generalize ga : textW ⟨an, am, at', az⟩ = a at *
      generalize gb : textW ⟨cn, cm, ct, cz⟩ = b at *
      refine ⟨by (first | omega | (simp only [lenOk, bytesOk, inI, IntKind.bits, List.length_append, Bs_len, List.length_cons, List.length_nil, List.length_map, List.length_take, List.length_drop, List.length_replicate]; omega)), ⟨by omega, by omega, by omega, q7⟩, by (first | omega | (simp only [lenOk, bytesOk, inI, IntKind.bits, List.length_append, Bs_len, List.length_cons, List.length_nil, List.length_map, List.length_take, List.length_drop, List.length_replicate]; omega)), by (first | omega | (simp only [lenOk, bytesOk, inI, IntKind.bits, List.length_append, Bs_len, List.length_cons, List.length_nil, List.length_map, List.length_take, List.length_drop, List.length_replicate]; omega)), by (first | omega | (simp only [lenOk, bytesOk, inI, IntKind.bits, List.length_append, Bs_len, List.length_cons, List.length_nil, List.length_map, List.length_take, List.length_drop, List.length_replicate]; omega)), ⟨by omega, by omega, by omega, q8⟩, by (first | omega | (simp only [lenOk, bytesOk, inI, IntKind.bits, List.length_append, Bs_len, List.length_cons, List.length_nil, List.length_map, List.length_take, List.length_drop, List.length_replicate]; omega)), by (first | omega | (simp only [lenOk, bytesOk, inI, IntKind.bits, List.length_append, Bs_len, List.length_cons, List.length_nil, List.length_map, List.length_take, List.length_drop, List.length_replicate]; omega)), ?_⟩
      clear hR R
      have eM : headC t ++ ps.flatMap parL ++ [97, 117, 116, 104, 111, 114, 32] ++ a ++ [10] ++ [99, 111, 109, 109, 105, 116, 116, 101, 114, 32] ++ b ++ [10] = headC t ++ ps.flatMap parL ++ midC a b := by simp [midC]
      rw [eM]
      refine loop2P [] [1, 3, 5] [0] (fun q : Nat × List UInt8 => ⟨[(1, .ref 0 0 0), (3, .str q.2), (5, .int .i64 (q.1 : Int))],
        [.cells 28 [(20, .blob (t.map U)), (1, .sl kq (ps.map idAV)), (1, .str an), (1, .str am), (1, .int .i64 at'), (1, .str az), (1, .str cn), (1, .str cm), (1, .int .i64 ct), (1, .str cz), (1, .sl ke (es.map exV)), (1, .str m)]]⟩)
        (fun q => q.1 ≤ es.length ∧ q.2 = headC t ++ ps.flatMap parL ++ midC a b ++ (es.take q.1).flatMap exL) (fun q => es.length - q.1) (0, headC t ++ ps.flatMap parL ++ midC a b) (by rfl) ⟨Nat.zero_le _, by simp⟩ ⟨rfl, by rfl⟩ (fun q hq R hR => ?_)
      obtain ⟨j, acc⟩ := q
      simp only at hq
      obtain ⟨hj, rfl⟩ := hq
      simp only at hj hR ⊢
      have hle := flatMap_take_le exL es j
      by_cases hjl : j < es.length
      · have c1 : decide ((j : Int) < (es.length : Int)) = true := decide_eq_true (by omega)
        have hk : ke = 2 := q5.resolve_right (by intro h; have := congrArg List.length h; simp at this; rw [this] at hjl; simp at hjl)
        subst hk
        have hget := getD_map exV es ([], []) (.agg [(1, (.str [])), (1, (.str []))]) hjl
        have hga : es.getD j ([], []) = es[j] := by simp [List.getD_eq_getElem?_getD, List.getElem?_eq_getElem hjl]
        obtain ⟨l1, l2⟩ := z5 es[j] (List.getElem_mem _)
        have hle2 := flatMap_take_le exL es (j + 1)
        rw [← flatMap_take exL es hjl, List.length_append] at hle2
        have hpl : (exL es[j]).length = es[j].1.length + (subst1 10 [10, 32] es[j].2).length + 2 := by simp only [exL, List.length_append, List.length_cons, List.length_nil]; omega
        simp only [b_rprn_1, rvalueS, c1, hget, hga, exV, Int.toNat_natCast, go_sem, Nat.reduceDiv, Nat.reduceMod, ↓reduceIte, Nat.reduceEqDiff, Nat.reduceBEq, Nat.reduceSub, Nat.reduceLT, Nat.reduceAdd, Nat.reduceLeDiff, reduceCtorEq, Int.reduceEq, Int.reduceNe, Int.reduceLT, Int.reduceLE, Int.reduceToNat]
        refine ⟨⟨by omega, by omega⟩, by (first | omega | (simp only [lenOk, bytesOk, inI, IntKind.bits, List.length_append, Bs_len, List.length_cons, List.length_nil, List.length_map, List.length_take, List.length_drop, List.length_replicate]; omega)), by (first | omega | (simp only [lenOk, bytesOk, inI, IntKind.bits, List.length_append, Bs_len, List.length_cons, List.length_nil, List.length_map, List.length_take, List.length_drop, List.length_replicate]; omega)), ⟨by omega, by omega⟩, by omega, by (first | omega | (simp only [lenOk, bytesOk, inI, IntKind.bits, List.length_append, Bs_len, List.length_cons, List.length_nil, List.length_map, List.length_take, List.length_drop, List.length_replicate]; omega)), by (first | omega | (simp only [lenOk, bytesOk, inI, IntKind.bits, List.length_append, Bs_len, List.length_cons, List.length_nil, List.length_map, List.length_take, List.length_drop, List.length_replicate]; omega)), ⟨by omega, by omega⟩, hR _ (j + 1, headC t ++ ps.flatMap parL ++ midC a b ++ (es.take (j + 1)).flatMap exL) ⟨by simp only; omega, rfl⟩ (by simp only; omega) ?_⟩
        simp only
        have e : headC t ++ ps.flatMap parL ++ midC a b ++ (es.take (j + 1)).flatMap exL = headC t ++ ps.flatMap parL ++ midC a b ++ (es.take j).flatMap exL ++ es[j].1 ++ [32] ++ subst1 10 [10, 32] es[j].2 ++ [10] := by
          rw [← flatMap_take exL es hjl]; simp [exL]
        rw [e]
        rfl
      · have c1 : decide ((j : Int) < (es.length : Int)) = false := decide_eq_false (by omega)
        obtain rfl : j = es.length := by omega
        rw [List.take_length]
        simp only [b_rprn_1, t_rprn_0, r_rprn, c1, go_sem, Nat.reduceDiv, Nat.reduceMod, ↓reduceIte, Nat.reduceEqDiff, Nat.reduceBEq, Nat.reduceSub, Nat.reduceLT, Nat.reduceAdd, Nat.reduceLeDiff, reduceCtorEq, Int.reduceEq, Int.reduceNe, Int.reduceLT, Int.reduceLE, Int.reduceToNat]
        refine ⟨by (first | omega | (simp only [lenOk, bytesOk, inI, IntKind.bits, List.length_append, Bs_len, List.length_cons, List.length_nil, List.length_map, List.length_take, List.length_drop, List.length_replicate]; omega)), by (first | omega | (simp only [lenOk, bytesOk, inI, IntKind.bits, List.length_append, Bs_len, List.length_cons, List.length_nil, List.length_map, List.length_take, List.length_drop, List.length_replicate]; omega)), ?_⟩
        unfold bodyC printC
        simp only [ga, gb]
        simp
  · cases hs
def rrtagS : Spec := fun xs hp => match xs, hp with
  | [.agg [(20, .blob o), (1, .int .i64 k), (1, .str n), (1, .str wn), (1, .str wm), (1, .int .i64 wt), (1, .str wz), (1, .str m)]], [] => some ⟨.bool (rightT ⟨unV o, k, n, ⟨wn, wm, wt, wz⟩, m⟩), [], n.length ≤ 1000000000 ∧ wn.length ≤ 1000000000 ∧ wm.length ≤ 1000000000 ∧ wz.length ≤ 1000000000⟩
  | _, _ => none
theorem hasL_1 (c : UInt8) (s : List UInt8) : hasL [c] s = s.contains c := by
  rw [Bool.eq_iff_iff, hasL_iff]; simp
theorem rrtag_ok : FnOk Tryz.prog 28 rrtagS := by
  refine fn_slim2 Tryz.func28 s_rrtag (Φ := phiL [(57, [], wordS), (42, [], rhasS), (16, [], rpersonS)]) (phi_cons rword_ok (by kernel_rfl) (phi_cons rhas_ok (by kernel_rfl) (phi_cons rperson_ok (by kernel_rfl) phi_nil))) ?_
  intro xs hp r hs hp'
  unfold rrtagS at hs
  split at hs
  · injection hs with hs; subst hs
    rename_i o k n wn wm wt wz m
    obtain ⟨p1, p2, p3, p4⟩ := hp'
    refine ⟨len_le (by kernel_rfl), ?_⟩
    have he : rightT ⟨unV o, k, n, ⟨wn, wm, wt, wz⟩, m⟩ = (!decide (wordL k = []) && !decide (n = []) && !hasL [10] n && rightW ⟨wn, wm, wt, wz⟩) := by
      unfold rightT; simp only [hasL_1]
      cases rightW ⟨wn, wm, wt, wz⟩ <;> simp
    rw [he]
    cases h1 : decide (wordL k = []) <;> cases h2 : decide (n = []) <;> cases h3 : hasL [10] n
    all_goals (
      simp only [c_rrtag, r_rrtag, wordS, rhasS, rpersonS, h1, h2, h3, Bool.not_true, Bool.not_false, Bool.and_false, Bool.false_and, Bool.true_and, go_sem, Nat.reduceDiv, Nat.reduceMod, ↓reduceIte, Nat.reduceEqDiff, Nat.reduceBEq, Nat.reduceSub, Nat.reduceLT, Nat.reduceAdd, Nat.reduceLeDiff, reduceCtorEq, Int.reduceEq, Int.reduceNe, Int.reduceLT, Int.reduceLE, Int.reduceToNat]
      try (repeat' apply And.intro)
      all_goals first | omega | rfl | trivial)
  · cases hs
def rprtS : Spec := fun xs hp => match xs, hp with
  | [.agg [(20, .blob o), (1, .int .i64 k), (1, .str n), (1, .str wn), (1, .str wm), (1, .int .i64 wt), (1, .str wz), (1, .str m)]], [] =>
    some ⟨.str (bodyT ⟨unV o, k, n, ⟨wn, wm, wt, wz⟩, m⟩), [], o = (unV o).map U ∧ sizeOkT ⟨unV o, k, n, ⟨wn, wm, wt, wz⟩, m⟩ ∧ inI wt⟩
  | _, _ => none
theorem rprt_ok : FnOk Tryz.prog 29 rprtS := by
  refine fn_slim2 Tryz.func29 s_rprt (Φ := phiL [(38, [], rhexS), (57, [], wordS), (18, [], rtextS)]) (phi_cons rhex_ok (by kernel_rfl) (phi_cons rword_ok (by kernel_rfl) (phi_cons rtext_ok (by kernel_rfl) phi_nil))) ?_
  intro xs hp r hs hp'
  unfold rprtS at hs
  split at hs
  · injection hs with hs; subst hs
    rename_i o k n wn wm wt wz m
    obtain ⟨q1, q2, q3⟩ := hp'
    generalize unV o = o at *
    subst q1
    obtain ⟨z1, z2, z3, z4⟩ := q2
    simp only at z1 z2 z3 z4
    refine ⟨len_le (by kernel_rfl), ?_⟩
    have hi := Lib.itoa_length_le wt q3.1 q3.2
    have hl : (textW ⟨wn, wm, wt, wz⟩).length ≤ 1000100 := by simp only [textW, List.length_append, List.length_cons, List.length_nil]; omega
    have hw := wordL_len6 k
    have hh := hexL_length o
    simp only [c_rprt, r_rprt, rhexS, wordS, rtextS, unV_U, hexI_eq, bodyT, tagL, go_sem, Nat.reduceDiv, Nat.reduceMod, ↓reduceIte, Nat.reduceEqDiff, Nat.reduceBEq, Nat.reduceSub, Nat.reduceLT, Nat.reduceAdd, Nat.reduceLeDiff, reduceCtorEq, Int.reduceEq, Int.reduceNe, Int.reduceLT, Int.reduceLE, Int.reduceToNat]
    generalize textW ⟨wn, wm, wt, wz⟩ = a at *
    simp only [List.length_append, List.length_cons, List.length_nil]
    repeat' apply And.intro
    all_goals first | omega | rfl | exact q3.1 | exact q3.2 | (first | omega | (simp only [lenOk, bytesOk, inI, IntKind.bits, List.length_append, Bs_len, List.length_cons, List.length_nil, List.length_map, List.length_take, List.length_drop, List.length_replicate]; omega)) | (simp; done) | skip
  · cases hs
end Go.Proofs.YtlkaaoekbmegkaaGreatDoor
