import Derived.Test.YtfabdnpeohpgnaaGreatDoorQShelf
import Derived.Test.YtfabdnpeohpgnaaGreatDoorQRParse2
namespace Go.Proofs.YtfabdnpeohpgnaaGreatDoor
set_option linter.all false
open Go.RowKit
def gkeyedS : Spec := fun xs hp => match xs, hp with
  | [.str s], [] => some ⟨.bool (keyedB s), [], s.length ≤ 1000000000⟩
  | _, _ => none
theorem keyC_int (c : UInt8) : keyC c = (((((decide (97 ≤ (c.toNat : Int)) && decide ((c.toNat : Int) ≤ 122)) || (decide (65 ≤ (c.toNat : Int)) && decide ((c.toNat : Int) ≤ 90))) || (decide (48 ≤ (c.toNat : Int)) && decide ((c.toNat : Int) ≤ 57))) || decide ((c.toNat : Int) = 45)) || decide ((c.toNat : Int) = 95)) := by
  unfold keyC
  have h : ∀ a b : Nat, decide (a ≤ b) = decide ((a : Int) ≤ (b : Int)) := fun a b => by rw [Bool.eq_iff_iff]; simp
  have h2 : ∀ a b : Nat, decide (a = b) = decide ((a : Int) = (b : Int)) := fun a b => by rw [Bool.eq_iff_iff, decide_eq_true_eq, decide_eq_true_eq]; omega
  rw [h 97, h _ 122, h 65, h _ 90, h 48, h _ 57, h2 _ 45, h2 _ 95]
  rfl
set_option maxHeartbeats 2000000 in
theorem gkeyed_ok : FnOk Tryz.prog 33 gkeyedS := by
  refine fn_slim2 Tryz.func33 s_gkeyed (Φ := phiL []) phi_nil ?_
  intro xs hp r hs hp'
  unfold gkeyedS at hs
  split at hs
  · injection hs with hs; subst hs
    rename_i s
    have p1 : s.length ≤ 1000000000 := hp'
    refine ⟨len_le (by kernel_rfl), ?_⟩
    simp only [c_gkeyed, go_sem, Nat.reduceDiv, Nat.reduceMod, ↓reduceIte, Nat.reduceEqDiff, Nat.reduceBEq, Nat.reduceSub, Nat.reduceLT, Nat.reduceAdd, Nat.reduceLeDiff, reduceCtorEq, Int.reduceEq, Int.reduceNe, Int.reduceLT, Int.reduceLE, Int.reduceToNat]
    refine ⟨by (first | omega | (simp only [lenOk, bytesOk, inI, IntKind.bits, List.length_append, Bs_len, List.length_cons, List.length_nil, List.length_map, List.length_take, List.length_drop, List.length_replicate]; omega)), ?_⟩
    refine loop2P [] [0, 6, 7, 8] [0] (fun i : Nat => ⟨[(0, .str s), (6, .own 0 0), (7, .int .i64 (s.length : Int)), (8, .int .i64 (i : Int))], [.row 5 1 0 (Bs s)]⟩)
      (fun i => i ≤ s.length ∧ (s.take i).all keyC = true) (fun i => s.length - i) 0 (by rfl) ⟨Nat.zero_le _, by simp⟩ ⟨rfl, by rfl⟩ (fun i hi R hR => ?_)
    obtain ⟨i1, i2⟩ := hi
    by_cases hil : i < s.length
    · have c1 : decide ((i : Int) < (s.length : Int)) = true := decide_eq_true (by omega)
      have hga : s.getD i 0 = s[i] := by simp [List.getD_eq_getElem?_getD, List.getElem?_eq_getElem hil]
      have hk := keyC_int s[i]
      have hlt := s[i].toNat_lt
      have hnext : keyC s[i] = true → (s.take (i + 1)).all keyC = true := fun h => by
        rw [List.take_add_one, List.getElem?_eq_getElem hil, Option.toList_some, List.all_append, i2]; simp [h]
      have hbad : keyC s[i] = false → keyedB s = false := fun h => by
        unfold keyedB
        rw [show s.all keyC = false from List.all_eq_false.2 ⟨s[i], List.getElem_mem _, by rw [h]; simp⟩, Bool.and_false]
      generalize hn : (s[i].toNat : Int) = n at *
      have hn0 : 0 ≤ n := by omega
      have hc : n = 45 ∨ n = 95 ∨ (97 ≤ n ∧ n ≤ 122) ∨ (65 ≤ n ∧ n ≤ 90) ∨ (48 ≤ n ∧ n ≤ 57) ∨ n < 45 ∨ (45 < n ∧ n < 48) ∨ (57 < n ∧ n < 65) ∨ (90 < n ∧ n < 95) ∨ n = 96 ∨ 122 < n := by omega
      have hat : (((s.getD i 0).toNat : Nat) : Int) = n := by rw [hga]; exact hn
      rcases hc with h | h | h | h | h | h | h | h | h | h | h
      all_goals (
        first | have f1 : decide (97 ≤ n) = true := decide_eq_true (by omega) | have f1 : decide (97 ≤ n) = false := decide_eq_false (by omega)
        first | have f2 : decide (n ≤ 122) = true := decide_eq_true (by omega) | have f2 : decide (n ≤ 122) = false := decide_eq_false (by omega)
        first | have f3 : decide (65 ≤ n) = true := decide_eq_true (by omega) | have f3 : decide (65 ≤ n) = false := decide_eq_false (by omega)
        first | have f4 : decide (n ≤ 90) = true := decide_eq_true (by omega) | have f4 : decide (n ≤ 90) = false := decide_eq_false (by omega)
        first | have f5 : decide (48 ≤ n) = true := decide_eq_true (by omega) | have f5 : decide (48 ≤ n) = false := decide_eq_false (by omega)
        first | have f6 : decide (n ≤ 57) = true := decide_eq_true (by omega) | have f6 : decide (n ≤ 57) = false := decide_eq_false (by omega)
        first | have f7 : decide (n = 45) = true := decide_eq_true (by omega) | have f7 : decide (n = 45) = false := decide_eq_false (by omega)
        first | have f8 : decide (n = 95) = true := decide_eq_true (by omega) | have f8 : decide (n = 95) = false := decide_eq_false (by omega)
        rw [f1, f2, f3, f4, f5, f6, f7, f8] at hk
        simp only [Bool.and_true, Bool.and_false, Bool.or_true, Bool.or_false, Bool.true_or, Bool.false_or] at hk
        clear h
        simp only [b_gkeyed_0, r_gkeyed, c1, hat, f1, f2, f3, f4, f5, f6, f7, f8, Int.toNat_natCast, go_sem, Nat.reduceDiv, Nat.reduceMod, ↓reduceIte, Nat.reduceEqDiff, Nat.reduceBEq, Nat.reduceSub, Nat.reduceLT, Nat.reduceAdd, Nat.reduceLeDiff, reduceCtorEq, Int.reduceEq, Int.reduceNe, Int.reduceLT, Int.reduceLE, Int.reduceToNat])
      all_goals first | exact ⟨⟨by omega, by omega⟩, hil, ⟨by omega, by omega⟩, hR _ (i + 1) ⟨hil, hnext hk⟩ (by omega) rfl⟩ | exact ⟨⟨by omega, by omega⟩, hil, by rw [hbad hk]⟩
    · have c1 : decide ((i : Int) < (s.length : Int)) = false := decide_eq_false (by omega)
      rw [List.take_of_length_le (by omega)] at i2
      have hl2 : decide ((s.length : Int) ≤ 100) = decide (s.length ≤ 100) := by rw [Bool.eq_iff_iff]; simp; omega
      have hkb : keyedB s = (!decide (s = []) && decide (s.length ≤ 100)) := by unfold keyedB; rw [i2, Bool.and_true]; simp
      rw [hkb]
      cases h1 : decide (s = []) with
      | true =>
        simp only [b_gkeyed_0, t_gkeyed_0, r_gkeyed, c1, h1, hl2, Bool.not_true, Bool.false_and, go_sem, Nat.reduceDiv, Nat.reduceMod, ↓reduceIte, Nat.reduceEqDiff, Nat.reduceBEq, Nat.reduceSub, Nat.reduceLT, Nat.reduceAdd, Nat.reduceLeDiff, reduceCtorEq, Int.reduceEq, Int.reduceNe, Int.reduceLT, Int.reduceLE, Int.reduceToNat]
      | false =>
        simp only [b_gkeyed_0, t_gkeyed_0, r_gkeyed, c1, h1, hl2, Bool.not_false, Bool.true_and, go_sem, Nat.reduceDiv, Nat.reduceMod, ↓reduceIte, Nat.reduceEqDiff, Nat.reduceBEq, Nat.reduceSub, Nat.reduceLT, Nat.reduceAdd, Nat.reduceLeDiff, reduceCtorEq, Int.reduceEq, Int.reduceNe, Int.reduceLT, Int.reduceLE, Int.reduceToNat]
  · cases hs
def gtoldS : Spec := fun xs hp => match xs, hp with
  | [.str s], [] => some ⟨.str (tolL s), [], s.length ≤ 100000000⟩
  | _, _ => none
theorem tol_take (s : List UInt8) {i : Nat} (h : i < s.length) : tolL (s.take (i + 1)) = tolL (s.take i) ++ escC s[i] := by
  unfold tolL
  rw [List.take_add_one, List.getElem?_eq_getElem h, Option.toList_some, List.flatMap_append, List.flatMap_cons, List.flatMap_nil, List.append_nil]
theorem tol_len (s : List UInt8) : (tolL s).length ≤ 2 * s.length := by
  unfold tolL
  induction s with
  | nil => simp
  | cons c s ih =>
    rw [List.flatMap_cons, List.length_append, List.length_cons]
    have : (escC c).length ≤ 2 := by unfold escC; repeat' split
                                     all_goals simp
    omega
theorem tol_take_len (s : List UInt8) (i : Nat) : (tolL (s.take i)).length ≤ 2 * s.length := by
  have h1 := tol_len (s.take i)
  rw [List.length_take] at h1; omega
def bldX (i : Nat) : AV := if i = 0 then .con (.pointer none) else .ref 0 0 0
theorem bldX_or (i : Nat) : bldX i = .con (.pointer none) ∨ bldX i = .ref 0 0 0 := by
  unfold bldX; split
  · exact .inl rfl
  · exact .inr rfl
def phiB : Phi := phiL [(37, [], bwsS), (38, [], bwbS), (39, [], bstrS)]
theorem phiB_ok : PhiOk Tryz.prog phiB := phi_cons bws_ok (by kernel_rfl) (phi_cons bwb_ok (by kernel_rfl) (phi_cons bstr_ok (by kernel_rfl) phi_nil))
theorem phiB_1 : phiB 37 = some ([], bwsS) := rfl
theorem phiB_2 : phiB 38 = some ([], bwbS) := rfl
theorem phiB_3 : phiB 39 = some ([], bstrS) := rfl
set_option maxHeartbeats 2000000 in
theorem gtold_ok : FnOk Tryz.prog 16 gtoldS := by
  refine fn_slim2 Tryz.func16 s_gtold phiB_ok ?_
  intro xs hp r hs hp'
  unfold gtoldS at hs
  split at hs
  · injection hs with hs; subst hs
    rename_i s
    have p1 : s.length ≤ 100000000 := hp'
    refine ⟨len_le (by kernel_rfl), ?_⟩
    simp only [c_gtold, go_sem, Nat.reduceDiv, Nat.reduceMod, ↓reduceIte, Nat.reduceEqDiff, Nat.reduceBEq, Nat.reduceSub, Nat.reduceLT, Nat.reduceAdd, Nat.reduceLeDiff, reduceCtorEq, Int.reduceEq, Int.reduceNe, Int.reduceLT, Int.reduceLE, Int.reduceToNat]
    refine ⟨by (first | omega | (simp only [lenOk, bytesOk, inI, IntKind.bits, List.length_append, Bs_len, List.length_cons, List.length_nil, List.length_map, List.length_take, List.length_drop, List.length_replicate]; omega)), ?_⟩
    refine loop2P [(4097, 5, 1)] [0, 3, 7, 8, 9] [0, 1, 2] (fun i : Nat => ⟨[(0, .str s), (3, .ref 0 0 0), (7, .own 1 0), (8, .int .i64 (s.length : Int)), (9, .int .i64 (i : Int))],
      [.cells 75 [(1, bldX i), (1, .own 2 i)], .row 5 1 0 (Bs s), .row 5 1 i (Bs (tolL (s.take i)))]⟩)
      (fun i => i ≤ s.length) (fun i => s.length - i) 0 (by rfl) (Nat.zero_le _) ⟨rfl, by rfl⟩ (fun i hi R hR => ?_)
    have hX0 : selfX (.con (.pointer none)) = true := rfl
    have hX1 : selfX (.ref 0 0 0) = true := rfl
    by_cases hil : i < s.length
    · have c1 : decide ((i : Int) < (s.length : Int)) = true := decide_eq_true (by omega)
      have hga : s.getD i 0 = s[i] := by simp [List.getD_eq_getElem?_getD, List.getElem?_eq_getElem hil]
      have htk := tol_take s hil
      have htl := tol_take_len s i
      have htl2 := tol_take_len s (i + 1)
      have hb1 : bldX (i + 1) = .ref 0 0 0 := rfl
      generalize hc : s[i] = c at *
      have hcn : ∀ k : UInt8, decide (((c.toNat : Nat) : Int) = ((k.toNat : Nat) : Int)) = decide (c = k) := fun k => by
        rw [Bool.eq_iff_iff, decide_eq_true_eq, decide_eq_true_eq]
        constructor
        · intro h; exact UInt8.toNat_inj.1 (by omega)
        · rintro rfl; rfl
      have g1 := hcn 92
      have g2 := hcn 10
      have g3 := hcn 13
      have g4 := hcn 0
      have g1 : decide (((c.toNat : Nat) : Int) = 92) = decide (c = 92) := g1
      have g2 : decide (((c.toNat : Nat) : Int) = 10) = decide (c = 10) := g2
      have g3 : decide (((c.toNat : Nat) : Int) = 13) = decide (c = 13) := g3
      have g4 : decide (((c.toNat : Nat) : Int) = 0) = decide (c = 0) := g4
      have fin : ∀ e : List UInt8, escC c = e → tolL (s.take (i + 1)) = tolL (s.take i) ++ e := fun e he => by rw [htk, he]
      rcases bldX_or i with hbi | hbi
      all_goals (
        by_cases h1 : c = 92
        · have d1 : decide (c = 92) = true := decide_eq_true h1
          have e := fin [92, 92] (by rw [h1]; rfl)
          simp only [b_gtold_0, hbi, c1, hga, g1, d1, phiB_1, bwsS, hX0, hX1, if_true, Int.toNat_natCast, go_sem, Nat.reduceDiv, Nat.reduceMod, ↓reduceIte, Nat.reduceEqDiff, Nat.reduceBEq, Nat.reduceSub, Nat.reduceLT, Nat.reduceAdd, Nat.reduceLeDiff, reduceCtorEq, Int.reduceEq, Int.reduceNe, Int.reduceLT, Int.reduceLE, Int.reduceToNat]
          exact ⟨⟨by omega, by omega⟩, hil, by (first | omega | (simp only [lenOk, bytesOk, inI, IntKind.bits, List.length_append, Bs_len, List.length_cons, List.length_nil, List.length_map, List.length_take, List.length_drop, List.length_replicate]; omega)), ⟨by omega, by omega⟩, hR _ (i + 1) hil (by omega) (by simp only [hb1, e, ← Bs_app]; rfl)⟩
        have d1 : decide (c = 92) = false := decide_eq_false h1
        by_cases h2 : c = 10
        · have d2 : decide (c = 10) = true := decide_eq_true h2
          have e := fin [92, 110] (by rw [h2]; rfl)
          simp only [b_gtold_0, hbi, c1, hga, g1, d1, g2, d2, phiB_1, bwsS, hX0, hX1, if_true, Int.toNat_natCast, go_sem, Nat.reduceDiv, Nat.reduceMod, ↓reduceIte, Nat.reduceEqDiff, Nat.reduceBEq, Nat.reduceSub, Nat.reduceLT, Nat.reduceAdd, Nat.reduceLeDiff, reduceCtorEq, Int.reduceEq, Int.reduceNe, Int.reduceLT, Int.reduceLE, Int.reduceToNat]
          exact ⟨⟨by omega, by omega⟩, hil, by (first | omega | (simp only [lenOk, bytesOk, inI, IntKind.bits, List.length_append, Bs_len, List.length_cons, List.length_nil, List.length_map, List.length_take, List.length_drop, List.length_replicate]; omega)), ⟨by omega, by omega⟩, hR _ (i + 1) hil (by omega) (by simp only [hb1, e, ← Bs_app]; rfl)⟩
        have d2 : decide (c = 10) = false := decide_eq_false h2
        by_cases h3 : c = 13
        · have d3 : decide (c = 13) = true := decide_eq_true h3
          have e := fin [92, 114] (by rw [h3]; rfl)
          simp only [b_gtold_0, hbi, c1, hga, g1, d1, g2, d2, g3, d3, phiB_1, bwsS, hX0, hX1, if_true, Int.toNat_natCast, go_sem, Nat.reduceDiv, Nat.reduceMod, ↓reduceIte, Nat.reduceEqDiff, Nat.reduceBEq, Nat.reduceSub, Nat.reduceLT, Nat.reduceAdd, Nat.reduceLeDiff, reduceCtorEq, Int.reduceEq, Int.reduceNe, Int.reduceLT, Int.reduceLE, Int.reduceToNat]
          exact ⟨⟨by omega, by omega⟩, hil, by (first | omega | (simp only [lenOk, bytesOk, inI, IntKind.bits, List.length_append, Bs_len, List.length_cons, List.length_nil, List.length_map, List.length_take, List.length_drop, List.length_replicate]; omega)), ⟨by omega, by omega⟩, hR _ (i + 1) hil (by omega) (by simp only [hb1, e, ← Bs_app]; rfl)⟩
        have d3 : decide (c = 13) = false := decide_eq_false h3
        by_cases h4 : c = 0
        · have d4 : decide (c = 0) = true := decide_eq_true h4
          have e := fin [92, 48] (by rw [h4]; rfl)
          simp only [b_gtold_0, hbi, c1, hga, g1, d1, g2, d2, g3, d3, g4, d4, phiB_1, bwsS, hX0, hX1, if_true, Int.toNat_natCast, go_sem, Nat.reduceDiv, Nat.reduceMod, ↓reduceIte, Nat.reduceEqDiff, Nat.reduceBEq, Nat.reduceSub, Nat.reduceLT, Nat.reduceAdd, Nat.reduceLeDiff, reduceCtorEq, Int.reduceEq, Int.reduceNe, Int.reduceLT, Int.reduceLE, Int.reduceToNat]
          exact ⟨⟨by omega, by omega⟩, hil, by (first | omega | (simp only [lenOk, bytesOk, inI, IntKind.bits, List.length_append, Bs_len, List.length_cons, List.length_nil, List.length_map, List.length_take, List.length_drop, List.length_replicate]; omega)), ⟨by omega, by omega⟩, hR _ (i + 1) hil (by omega) (by simp only [hb1, e, ← Bs_app]; rfl)⟩
        have d4 : decide (c = 0) = false := decide_eq_false h4
        have e := fin [c] (by unfold escC; rw [if_neg h1, if_neg h2, if_neg h3, if_neg h4])
        simp only [b_gtold_0, hbi, c1, hga, g1, d1, g2, d2, g3, d3, g4, d4, phiB_2, bwbS, hX0, hX1, if_true, Int.toNat_natCast, go_sem, Nat.reduceDiv, Nat.reduceMod, ↓reduceIte, Nat.reduceEqDiff, Nat.reduceBEq, Nat.reduceSub, Nat.reduceLT, Nat.reduceAdd, Nat.reduceLeDiff, reduceCtorEq, Int.reduceEq, Int.reduceNe, Int.reduceLT, Int.reduceLE, Int.reduceToNat]
        exact ⟨⟨by omega, by omega⟩, hil, by (first | omega | (simp only [lenOk, bytesOk, inI, IntKind.bits, List.length_append, Bs_len, List.length_cons, List.length_nil, List.length_map, List.length_take, List.length_drop, List.length_replicate]; omega)), ⟨by omega, by omega⟩, hR _ (i + 1) hil (by omega) (by simp only [hb1, e, ← Bs_push]; rfl)⟩)
    · have c1 : decide ((i : Int) < (s.length : Int)) = false := decide_eq_false (by omega)
      obtain rfl : i = s.length := by omega
      rw [List.take_length]
      rcases bldX_or s.length with hbi | hbi
      all_goals simp only [b_gtold_0, t_gtold_0, r_gtold, hbi, c1, phiB_3, bstrS, unB_Bs, if_true, go_sem, Nat.reduceDiv, Nat.reduceMod, ↓reduceIte, Nat.reduceEqDiff, Nat.reduceBEq, Nat.reduceSub, Nat.reduceLT, Nat.reduceAdd, Nat.reduceLeDiff, reduceCtorEq, Int.reduceEq, Int.reduceNe, Int.reduceLT, Int.reduceLE, Int.reduceToNat]
  · cases hs
end Go.Proofs.YtfabdnpeohpgnaaGreatDoor
namespace Go.Proofs.YtfabdnpeohpgnaaGreatDoor
set_option linter.all false
open Go.RowKit
def gmeantS : Spec := fun xs hp => match xs, hp with
  | [.str s], [] => some ⟨.str (meaL s), [], s.length ≤ 100000000⟩
  | _, _ => none
theorem mea_len : ∀ s : List UInt8, (meaL s).length ≤ s.length
  | [] => Nat.le_refl _
  | [c] => Nat.le_refl _
  | c :: d :: r => by
    rw [meaL]
    split
    · have := mea_len r; simp only [List.length_cons]; omega
    · have := mea_len (d :: r); simp only [List.length_cons] at this ⊢; omega
theorem at8_nat {l : List UInt8} {i : Nat} (h : i < l.length) : at8 l i = ((l[i].toNat : Nat) : Int) := by
  unfold at8; rw [List.getD_eq_getElem?_getD, List.getElem?_eq_getElem h]; rfl
theorem u8_eq (c k : UInt8) : decide (((c.toNat : Nat) : Int) = ((k.toNat : Nat) : Int)) = decide (c = k) := by
  rw [Bool.eq_iff_iff, decide_eq_true_eq, decide_eq_true_eq]
  constructor
  · intro h; exact UInt8.toNat_inj.1 (by omega)
  · rintro rfl; rfl
set_option maxHeartbeats 2000000 in
theorem gmeant_ok : FnOk Tryz.prog 48 gmeantS := by
  refine fn_slim2 Tryz.func48 s_gmeant phiB_ok ?_
  intro xs hp r hs hp'
  unfold gmeantS at hs
  split at hs
  · injection hs with hs; subst hs
    rename_i s
    have p1 : s.length ≤ 100000000 := hp'
    refine ⟨len_le (by kernel_rfl), ?_⟩
    simp only [c_gmeant, go_sem, Nat.reduceDiv, Nat.reduceMod, ↓reduceIte, Nat.reduceEqDiff, Nat.reduceBEq, Nat.reduceSub, Nat.reduceLT, Nat.reduceAdd, Nat.reduceLeDiff, reduceCtorEq, Int.reduceEq, Int.reduceNe, Int.reduceLT, Int.reduceLE, Int.reduceToNat]
    have hml := mea_len s
    refine loop2P [(4097, 5, 1)] [0, 3, 4] [0, 1] (fun q : Nat × Nat × List UInt8 => ⟨[(0, .str s), (3, .ref 0 0 0), (4, .int .i64 (q.1 : Int))],
      [.cells 75 [(1, bldX q.2.1), (1, .own 1 q.2.1)], .row 5 1 q.2.1 (Bs q.2.2)]⟩)
      (fun q => q.1 ≤ s.length ∧ q.2.2 ++ meaL (s.drop q.1) = meaL s) (fun q => s.length - q.1) (0, 0, []) (by rfl) ⟨Nat.zero_le _, rfl⟩ ⟨rfl, by rfl⟩ (fun q hq R hR => ?_)
    obtain ⟨i, v, w⟩ := q
    simp only at hq hR ⊢
    obtain ⟨i1, i2⟩ := hq
    have hX0 : selfX (.con (.pointer none)) = true := rfl
    have hX1 : selfX (.ref 0 0 0) = true := rfl
    have hb1 : bldX (v + 1) = .ref 0 0 0 := rfl
    have hwl : w.length ≤ s.length := by have := congrArg List.length i2; rw [List.length_append] at this; omega
    have hb : ∀ u : UInt8, Bs w ++ [AV.int .u8 ((u.toNat : Nat) : Int)] = Bs (w ++ [u]) := fun u => Bs_push
    have hb10 : Bs w ++ [AV.int .u8 10] = Bs (w ++ [10]) := hb 10
    have hb13 : Bs w ++ [AV.int .u8 13] = Bs (w ++ [13]) := hb 13
    have hb00 : Bs w ++ [AV.int .u8 0] = Bs (w ++ [0]) := hb 0
    by_cases hil : i < s.length
    · have c1 : decide ((i : Int) < (s.length : Int)) = true := decide_eq_true (by omega)
      have hd : s.drop i = s[i] :: s.drop (i + 1) := List.drop_eq_getElem_cons hil
      have hat := at8_nat hil
      have e1 : ((i : Int) + 1).toNat = i + 1 := by omega
      rw [hd] at i2
      generalize hc : s[i] = c at *
      have g1 : decide (((c.toNat : Nat) : Int) = 92) = decide (c = 92) := u8_eq c 92
      by_cases h1 : c = 92
      · have d1 : decide (c = 92) = true := decide_eq_true h1
        by_cases hl2 : i + 1 < s.length
        · have c2 : decide ((i : Int) + 1 = (s.length : Int)) = false := decide_eq_false (by omega)
          have hat2 := at8_nat hl2
          have hd2 : s.drop (i + 1) = s[i + 1] :: s.drop (i + 1 + 1) := List.drop_eq_getElem_cons hl2
          rw [hd2, h1, mea_pair] at i2
          generalize hdd : s[i + 1] = d at *
          have k1 : decide (((d.toNat : Nat) : Int) = 110) = decide (d = 110) := u8_eq d 110
          have k2 : decide (((d.toNat : Nat) : Int) = 114) = decide (d = 114) := u8_eq d 114
          have k3 : decide (((d.toNat : Nat) : Int) = 48) = decide (d = 48) := u8_eq d 48
          have fin : ∀ e : UInt8, meC d = e → (w ++ [e]) ++ meaL (s.drop (i + 1 + 1)) = meaL s := fun e he => by rw [← i2, he]; simp
          rcases bldX_or v with hbi | hbi
          all_goals (
            by_cases m1 : d = 110
            · have j1 : decide (d = 110) = true := decide_eq_true m1
              have e := fin 10 (by rw [m1]; rfl)
              simp only [b_gmeant_0, hbi, c1, c2, hat, hat2, g1, d1, k1, j1, e1, phiB_2, bwbS, hX0, hX1, if_true, Int.toNat_natCast, go_sem, Nat.reduceDiv, Nat.reduceMod, ↓reduceIte, Nat.reduceEqDiff, Nat.reduceBEq, Nat.reduceSub, Nat.reduceLT, Nat.reduceAdd, Nat.reduceLeDiff, reduceCtorEq, Int.reduceEq, Int.reduceNe, Int.reduceLT, Int.reduceLE, Int.reduceToNat]
              exact ⟨⟨by omega, by omega⟩, ⟨by omega, by omega⟩, ⟨by omega, by omega⟩, ⟨by omega, by omega⟩, by (first | omega | (simp only [lenOk, bytesOk, inI, IntKind.bits, List.length_append, Bs_len, List.length_cons, List.length_nil, List.length_map, List.length_take, List.length_drop, List.length_replicate]; omega)), ⟨by omega, by omega⟩, hR _ (i + 1 + 1, v + 1, w ++ [10]) ⟨by simp only; omega, e⟩ (by simp only; omega) (by simp only [hb1, hb10]; rfl)⟩
            have j1 : decide (d = 110) = false := decide_eq_false m1
            by_cases m2 : d = 114
            · have j2 : decide (d = 114) = true := decide_eq_true m2
              have e := fin 13 (by rw [m2]; rfl)
              simp only [b_gmeant_0, hbi, c1, c2, hat, hat2, g1, d1, k1, j1, k2, j2, e1, phiB_2, bwbS, hX0, hX1, if_true, Int.toNat_natCast, go_sem, Nat.reduceDiv, Nat.reduceMod, ↓reduceIte, Nat.reduceEqDiff, Nat.reduceBEq, Nat.reduceSub, Nat.reduceLT, Nat.reduceAdd, Nat.reduceLeDiff, reduceCtorEq, Int.reduceEq, Int.reduceNe, Int.reduceLT, Int.reduceLE, Int.reduceToNat]
              exact ⟨⟨by omega, by omega⟩, ⟨by omega, by omega⟩, ⟨by omega, by omega⟩, ⟨by omega, by omega⟩, by (first | omega | (simp only [lenOk, bytesOk, inI, IntKind.bits, List.length_append, Bs_len, List.length_cons, List.length_nil, List.length_map, List.length_take, List.length_drop, List.length_replicate]; omega)), ⟨by omega, by omega⟩, hR _ (i + 1 + 1, v + 1, w ++ [13]) ⟨by simp only; omega, e⟩ (by simp only; omega) (by simp only [hb1, hb13]; rfl)⟩
            have j2 : decide (d = 114) = false := decide_eq_false m2
            by_cases m3 : d = 48
            · have j3 : decide (d = 48) = true := decide_eq_true m3
              have e := fin 0 (by rw [m3]; rfl)
              simp only [b_gmeant_0, hbi, c1, c2, hat, hat2, g1, d1, k1, j1, k2, j2, k3, j3, e1, phiB_2, bwbS, hX0, hX1, if_true, Int.toNat_natCast, go_sem, Nat.reduceDiv, Nat.reduceMod, ↓reduceIte, Nat.reduceEqDiff, Nat.reduceBEq, Nat.reduceSub, Nat.reduceLT, Nat.reduceAdd, Nat.reduceLeDiff, reduceCtorEq, Int.reduceEq, Int.reduceNe, Int.reduceLT, Int.reduceLE, Int.reduceToNat]
              exact ⟨⟨by omega, by omega⟩, ⟨by omega, by omega⟩, ⟨by omega, by omega⟩, ⟨by omega, by omega⟩, by (first | omega | (simp only [lenOk, bytesOk, inI, IntKind.bits, List.length_append, Bs_len, List.length_cons, List.length_nil, List.length_map, List.length_take, List.length_drop, List.length_replicate]; omega)), ⟨by omega, by omega⟩, hR _ (i + 1 + 1, v + 1, w ++ [0]) ⟨by simp only; omega, e⟩ (by simp only; omega) (by simp only [hb1, hb00]; rfl)⟩
            have j3 : decide (d = 48) = false := decide_eq_false m3
            have e := fin d (by unfold meC; rw [if_neg m1, if_neg m2, if_neg m3])
            simp only [b_gmeant_0, hbi, c1, c2, hat, hat2, g1, d1, k1, j1, k2, j2, k3, j3, e1, phiB_2, bwbS, hX0, hX1, if_true, Int.toNat_natCast, go_sem, Nat.reduceDiv, Nat.reduceMod, ↓reduceIte, Nat.reduceEqDiff, Nat.reduceBEq, Nat.reduceSub, Nat.reduceLT, Nat.reduceAdd, Nat.reduceLeDiff, reduceCtorEq, Int.reduceEq, Int.reduceNe, Int.reduceLT, Int.reduceLE, Int.reduceToNat]
            exact ⟨⟨by omega, by omega⟩, ⟨by omega, by omega⟩, ⟨by omega, by omega⟩, ⟨by omega, by omega⟩, ⟨by omega, by omega⟩, by (first | omega | (simp only [lenOk, bytesOk, inI, IntKind.bits, List.length_append, Bs_len, List.length_cons, List.length_nil, List.length_map, List.length_take, List.length_drop, List.length_replicate]; omega)), ⟨by omega, by omega⟩, hR _ (i + 1 + 1, v + 1, w ++ [d]) ⟨by simp only; omega, e⟩ (by simp only; omega) (by simp only [hb1, hb]; rfl)⟩)
        · have c2 : decide ((i : Int) + 1 = (s.length : Int)) = true := decide_eq_true (by omega)
          have hd2 : s.drop (i + 1) = [] := List.drop_of_length_le (by omega)
          rw [hd2] at i2
          have e : (w ++ [c]) ++ meaL (s.drop (i + 1)) = meaL s := by rw [hd2, ← i2]; simp [meaL]
          rcases bldX_or v with hbi | hbi
          all_goals (
            simp only [b_gmeant_0, hbi, c1, c2, hat, g1, d1, phiB_2, bwbS, hX0, hX1, if_true, Int.toNat_natCast, go_sem, Nat.reduceDiv, Nat.reduceMod, ↓reduceIte, Nat.reduceEqDiff, Nat.reduceBEq, Nat.reduceSub, Nat.reduceLT, Nat.reduceAdd, Nat.reduceLeDiff, reduceCtorEq, Int.reduceEq, Int.reduceNe, Int.reduceLT, Int.reduceLE, Int.reduceToNat]
            exact ⟨⟨by omega, by omega⟩, ⟨by omega, by omega⟩, ⟨by omega, by omega⟩, by (first | omega | (simp only [lenOk, bytesOk, inI, IntKind.bits, List.length_append, Bs_len, List.length_cons, List.length_nil, List.length_map, List.length_take, List.length_drop, List.length_replicate]; omega)), ⟨by omega, by omega⟩, hR _ (i + 1, v + 1, w ++ [c]) ⟨hil, e⟩ (by simp only; omega) (by simp only [hb1, hb]; rfl)⟩)
      · have d1 : decide (c = 92) = false := decide_eq_false h1
        rw [mea_other h1] at i2
        rcases bldX_or v with hbi | hbi
        all_goals (
          simp only [b_gmeant_0, hbi, c1, hat, g1, d1, phiB_2, bwbS, hX0, hX1, if_true, Int.toNat_natCast, go_sem, Nat.reduceDiv, Nat.reduceMod, ↓reduceIte, Nat.reduceEqDiff, Nat.reduceBEq, Nat.reduceSub, Nat.reduceLT, Nat.reduceAdd, Nat.reduceLeDiff, reduceCtorEq, Int.reduceEq, Int.reduceNe, Int.reduceLT, Int.reduceLE, Int.reduceToNat]
          exact ⟨⟨by omega, by omega⟩, ⟨by omega, by omega⟩, by (first | omega | (simp only [lenOk, bytesOk, inI, IntKind.bits, List.length_append, Bs_len, List.length_cons, List.length_nil, List.length_map, List.length_take, List.length_drop, List.length_replicate]; omega)), ⟨by omega, by omega⟩, hR _ (i + 1, v + 1, w ++ [c]) ⟨hil, by rw [← i2]; simp⟩ (by simp only; omega) (by simp only [hb1, hb]; rfl)⟩)
    · have c1 : decide ((i : Int) < (s.length : Int)) = false := decide_eq_false (by omega)
      rw [List.drop_of_length_le (by omega)] at i2
      have i2 : w = meaL s := by rw [← i2]; simp [meaL]
      subst i2
      rcases bldX_or v with hbi | hbi
      all_goals simp only [b_gmeant_0, t_gmeant_0, r_gmeant, hbi, c1, phiB_3, bstrS, unB_Bs, if_true, go_sem, Nat.reduceDiv, Nat.reduceMod, ↓reduceIte, Nat.reduceEqDiff, Nat.reduceBEq, Nat.reduceSub, Nat.reduceLT, Nat.reduceAdd, Nat.reduceLeDiff, reduceCtorEq, Int.reduceEq, Int.reduceNe, Int.reduceLT, Int.reduceLE, Int.reduceToNat]
  · cases hs
end Go.Proofs.YtfabdnpeohpgnaaGreatDoor
namespace Go.Proofs.YtfabdnpeohpgnaaGreatDoor
set_option linter.all false
open Go.RowKit
open Go.Lib (index hasPrefix trimPrefix cut indexAny)
def cutPreS : Spec := fun xs hp => match xs, hp with
  | [.str s, .str p], [] => some ⟨.tup [.str (trimPrefix s p), .bool (hasPrefix s p)], [], True⟩
  | _, _ => none
theorem cutPre_ok : FnOk Tryz.prog 45 cutPreS := by
  refine fnok_of_calls fun xs0 hp r hs hp' => ?_
  unfold cutPreS at hs
  split at hs
  · rename_i s p
    injection hs with hs; subst hs
    refine ⟨rfl, rfl, fun w S ρ args hS ha => ?_⟩
    obtain ⟨v, vs, rfl, hv, hr⟩ := ha.get _ _ rfl
    obtain ⟨u, us, rfl, hu, hr⟩ := hr.get _ _ rfl
    obtain rfl := hr.none
    rw [hv.str, hu.str]
    refine (Tryz.strings_CutPrefix ⟨s.toArray⟩ ⟨p.toArray⟩ w).mono ?_
    rintro e w' ⟨rfl, rfl⟩
    exact ⟨_, rfl, Below.refl _ _, fun _ _ _ => Vl.tup2 (Vl.str' _) (Vl.bool' _)⟩
  · cases hs
end Go.Proofs.YtfabdnpeohpgnaaGreatDoor
namespace Go.Proofs.YtfabdnpeohpgnaaGreatDoor
set_option linter.all false
open Go.RowKit
open Go.Lib (index hasPrefix trimPrefix cut indexAny)
theorem maxLen_cell {w : World} {S : Nat → Prop} (h : GlobOk w S) : ∃ m, w.cell? ⟨0, 0, none⟩ = some (.int .i64 m) := (h.2 0 (by kernel_rfl)).2
def cutS : Spec := fun xs hp => match xs, hp with
  | [.str s, .str p], [] => some ⟨.tup [.str (cut s p).1, .str (cut s p).2.1, .bool (cut s p).2.2], [], s.length < 4294967281⟩
  | _, _ => none
theorem cut_ok : FnOk Tryz.prog 26 cutS := by
  refine fnok_of_calls fun xs0 hp r hs hp' => ?_
  unfold cutS at hs
  split at hs
  · rename_i s p
    injection hs with hs; subst hs
    refine ⟨rfl, rfl, fun w S ρ args hS ha => ?_⟩
    obtain ⟨m, hm⟩ := maxLen_cell ha.glob
    obtain ⟨v, vs, rfl, hv, hr⟩ := ha.get _ _ rfl
    obtain ⟨u, us, rfl, hu, hr⟩ := hr.get _ _ rfl
    obtain rfl := hr.none
    rw [hv.str, hu.str]
    refine (Tryz.strings_Cut ⟨s.toArray⟩ ⟨p.toArray⟩ m w (by rw [Lib.size_eq]; exact hp') hm).mono ?_
    rintro e w' ⟨rfl, n, rfl⟩
    exact ⟨_, rfl, belowN (Below.refl _ _) n, fun _ _ _ => Vl.tup3 (Vl.str' _) (Vl.str' _) (Vl.bool' _)⟩
  · cases hs
end Go.Proofs.YtfabdnpeohpgnaaGreatDoor
namespace Go.Proofs.YtfabdnpeohpgnaaGreatDoor
set_option linter.all false
open Go.RowKit
open Go.Lib (index hasPrefix trimPrefix cut indexAny)
theorem css_strs {w : World} {S : Nat → Prop} {ρ : Rho} : ∀ ps : List (List UInt8), Css w S ρ (prs 1 (ps.map AV.str)) (ps.map fun l => Value.string ⟨l.toArray⟩)
  | [] => rfl
  | l :: ps => ⟨[_], _, rfl, rfl, .str l, css_strs ps⟩
def splitS : Spec := fun xs hp => match xs, hp with
  | [.str s, .str [c]], [] => some ⟨.own 0 0, [.row 9 1 0 ((psl c s).map AV.str)], s.length < 4294967281⟩
  | _, _ => none
theorem split_ok : FnOk Tryz.prog 47 splitS := by
  refine fnok_row fun xs0 hp r hs hp' => ?_
  unfold splitS at hs
  split at hs
  · rename_i s c
    injection hs with hs; subst hs
    refine ⟨rfl, _, _, _, rfl, rfl, fun w S ρ args hS ha => ?_⟩
    obtain ⟨m, hm⟩ := maxLen_cell ha.glob
    obtain ⟨v, vs, rfl, hv, hr⟩ := ha.get _ _ rfl
    obtain ⟨u, us, rfl, hu, hr⟩ := hr.get _ _ rfl
    obtain rfl := hr.none
    rw [hv.str, hu.str]
    refine (Tryz.strings_Split ⟨s.toArray⟩ ⟨[c].toArray⟩ m w (by rw [Lib.size_eq]; exact hp') hm (Nat.le_refl 1)).mono ?_
    rintro e w' ⟨rfl, rfl⟩
    have e1 : (Lib.splitB ⟨[c].toArray⟩ 0 (Lib.countB ⟨s.toArray⟩ ⟨[c].toArray⟩) ⟨s.toArray⟩).map (·.data.toList) = psl c s := by
      rw [Lib.splitB_data]; exact splitK_psl c s
    obtain ⟨X, hX⟩ : ∃ X, Lib.splitB ⟨[c].toArray⟩ 0 (Lib.countB ⟨s.toArray⟩ ⟨[c].toArray⟩) ⟨s.toArray⟩ = X := ⟨_, rfl⟩
    have e2 : X.length = Lib.countB ⟨s.toArray⟩ ⟨[c].toArray⟩ + 1 := by rw [← hX]; exact Lib.splitB_all ⟨[c].toArray⟩ (Nat.le_refl 1) 0 _ _ rfl
    rw [hX] at e1
    have e3 : X.map Value.string = (psl c s).map fun l => Value.string ⟨l.toArray⟩ := by
      rw [← e1, List.map_map]
      refine List.map_congr_left fun x _ => ?_
      simp only [Function.comp_apply, of_bs]
    have e4 : (psl c s).length = Lib.countB ⟨s.toArray⟩ ⟨[c].toArray⟩ + 1 := by rw [← e1, List.length_map, e2]
    have e5 := psl_join_len c s
    have hp2 : s.length < 4294967281 := hp'
    rw [hX, e3, ← e4]
    refine ⟨w.heap.size, _, _, _, ((psl c s).map fun l => Value.string ⟨l.toArray⟩).toArray, (0, 0), rfl, (Below.refl _ _).alloc (Nat.le_refl _) _, Nat.le_refl _, ?_, .inl rfl, Nat.le_refl _, by omega, by simp, ?_, by simp, by simp, css_strs _⟩
    · show (w.heap.push (Obj.cells _ _ _))[w.heap.size]? = _
      simp
    · rw [List.take_of_length_le (by simp)]
  · cases hs
end Go.Proofs.YtfabdnpeohpgnaaGreatDoor
namespace Go.Proofs.YtfabdnpeohpgnaaGreatDoor
set_option linter.all false
open Go.RowKit
open Go.Lib (index hasPrefix trimPrefix cut indexAny itoa)
def glineS : Spec := fun xs hp => match xs, hp with
  | [.ref 0 0 0], [.cells T [(1, .str s), (1, .bool b)]] => some ⟨.str (cut s [10]).1, [.cells T [(1, .str (cut s [10]).2.1), (1, .bool (b || !(cut s [10]).2.2))]], s.length < 4294967281⟩
  | _, _ => none
theorem gline_ok : FnOk Tryz.prog 25 glineS := by
  refine fn_slim2 Tryz.func25 s_gline (Φ := phiL [(26, [], cutS)]) (phi_cons cut_ok (by kernel_rfl) phi_nil) ?_
  intro xs hp r hs hp'
  unfold glineS at hs
  split at hs
  · injection hs with hs; subst hs
    rename_i T s b
    refine ⟨len_le (by kernel_rfl), ?_⟩
    cases b with
    | true =>
      simp only [c_gline, r_gline, cutS, Bool.true_or, go_sem, Nat.reduceDiv, Nat.reduceMod, ↓reduceIte, Nat.reduceEqDiff, Nat.reduceBEq, Nat.reduceSub, Nat.reduceLT, Nat.reduceAdd, Nat.reduceLeDiff, reduceCtorEq, Int.reduceEq, Int.reduceNe, Int.reduceLT, Int.reduceLE, Int.reduceToNat]
      exact hp'
    | false =>
      simp only [c_gline, r_gline, cutS, Bool.false_or, go_sem, Nat.reduceDiv, Nat.reduceMod, ↓reduceIte, Nat.reduceEqDiff, Nat.reduceBEq, Nat.reduceSub, Nat.reduceLT, Nat.reduceAdd, Nat.reduceLeDiff, reduceCtorEq, Int.reduceEq, Int.reduceNe, Int.reduceLT, Int.reduceLE, Int.reduceToNat]
      exact hp'
  · cases hs
theorem pre_head (s : List UInt8) : hasPrefix s [45] = decide (s.head? = some 45) := by
  cases s with
  | nil => rfl
  | cons c t =>
    show (([45] : List UInt8).isPrefixOf (c :: t)) = _
    rw [Bool.eq_iff_iff]; simp [List.isPrefixOf]
    exact eq_comm
noncomputable def gnumS : Spec := fun xs hp => match xs, hp with
  | [.ref 0 0 0, .str s], [.cells T [(1, .str r), (1, .bool b)]] => some ⟨.int .i64 (nmV s), [.cells T [(1, .str r), (1, .bool (b || !nmB s))]], s.length ≤ 1000000⟩
  | _, _ => none
set_option maxHeartbeats 2000000 in
theorem gnum_ok : FnOk Tryz.prog 27 gnumS := by
  refine fn_slim2 Tryz.func27 s_gnum (Φ := phiL [(45, [], cutPreS), (46, [], fdecS)]) (phi_cons cutPre_ok (by kernel_rfl) (phi_cons fdec_ok (by kernel_rfl) phi_nil)) ?_
  intro xs hp r hs hp'
  unfold gnumS at hs
  split at hs
  · injection hs with hs; subst hs
    rename_i s T rr b
    have p1 : s.length ≤ 1000000 := hp'
    refine ⟨len_le (by kernel_rfl), ?_⟩
    have hph := pre_head s
    have hdl : (s.drop 1).length ≤ s.length := by rw [List.length_drop]; omega
    have lt1 := decN_lt (s.drop 1)
    cases h1 : decide (s.head? = some 45) with
    | true =>
      have h1' := of_decide_eq_true h1
      rw [h1] at hph
      have ht : trimPrefix s [45] = s.drop 1 := by
        cases s with
        | nil => cases h1'
        | cons c t =>
          injection h1' with h1'; subst h1'
          rfl
      unfold nmV nmB
      rw [if_pos h1', if_pos h1']
      cases h2 : decB (s.drop 1) with
      | false =>
        have e0 := decN_f (decB_f h2)
        rw [e0]
        cases b <;> simp only [c_gnum, r_gnum, cutPreS, fdecS, hph, ht, h2, Bool.true_or, Bool.false_or, Bool.false_and, Bool.not_false, Bool.false_eq_true, if_false, go_sem, Nat.reduceDiv, Nat.reduceMod, ↓reduceIte, Nat.reduceEqDiff, Nat.reduceBEq, Nat.reduceSub, Nat.reduceLT, Nat.reduceAdd, Nat.reduceLeDiff, reduceCtorEq, Int.reduceEq, Int.reduceNe, Int.reduceLT, Int.reduceLE, Int.reduceToNat]
        all_goals first | omega | exact ⟨by omega, by omega, by omega⟩
      | true =>
        cases h3 : decide (decN (s.drop 1) = 0) with
        | true =>
          have h4 : decide (((decN (s.drop 1) : Nat) : Int) = 0) = true := decide_eq_true (by have := of_decide_eq_true h3; omega)
          cases b <;> simp only [c_gnum, r_gnum, cutPreS, fdecS, hph, ht, h2, h4, Bool.true_or, Bool.false_or, Bool.true_and, Bool.not_true, Bool.not_false, if_true, go_sem, Nat.reduceDiv, Nat.reduceMod, ↓reduceIte, Nat.reduceEqDiff, Nat.reduceBEq, Nat.reduceSub, Nat.reduceLT, Nat.reduceAdd, Nat.reduceLeDiff, reduceCtorEq, Int.reduceEq, Int.reduceNe, Int.reduceLT, Int.reduceLE, Int.reduceToNat]
          all_goals first | omega | exact ⟨by omega, by omega, by omega⟩
        | false =>
          have h4 : decide (((decN (s.drop 1) : Nat) : Int) = 0) = false := decide_eq_false (by have := of_decide_eq_false h3; omega)
          cases b <;> simp only [c_gnum, r_gnum, cutPreS, fdecS, hph, ht, h2, h4, Bool.true_or, Bool.false_or, Bool.true_and, Bool.not_true, Bool.not_false, if_true, go_sem, Nat.reduceDiv, Nat.reduceMod, ↓reduceIte, Nat.reduceEqDiff, Nat.reduceBEq, Nat.reduceSub, Nat.reduceLT, Nat.reduceAdd, Nat.reduceLeDiff, reduceCtorEq, Int.reduceEq, Int.reduceNe, Int.reduceLT, Int.reduceLE, Int.reduceToNat]
          all_goals first | omega | exact ⟨by omega, by omega, by omega⟩
    | false =>
      have h1' := of_decide_eq_false h1
      rw [h1] at hph
      have ht : trimPrefix s [45] = s := by unfold trimPrefix; rw [if_neg (by rw [hph]; simp)]
      unfold nmV nmB
      rw [if_neg h1', if_neg h1']
      cases h2 : decB s with
      | false =>
        have e0 := decN_f (decB_f h2)
        rw [e0]
        cases b <;> simp only [c_gnum, r_gnum, cutPreS, fdecS, hph, ht, h2, Bool.true_or, Bool.false_or, Bool.not_false, Bool.false_eq_true, if_false, go_sem, Nat.reduceDiv, Nat.reduceMod, ↓reduceIte, Nat.reduceEqDiff, Nat.reduceBEq, Nat.reduceSub, Nat.reduceLT, Nat.reduceAdd, Nat.reduceLeDiff, reduceCtorEq, Int.reduceEq, Int.reduceNe, Int.reduceLT, Int.reduceLE, Int.reduceToNat]
        all_goals first | omega | exact ⟨by omega, by omega, by omega⟩
      | true =>
        cases b <;> simp only [c_gnum, r_gnum, cutPreS, fdecS, hph, ht, h2, Bool.true_or, Bool.false_or, Bool.not_true, Bool.not_false, if_true, go_sem, Nat.reduceDiv, Nat.reduceMod, ↓reduceIte, Nat.reduceEqDiff, Nat.reduceBEq, Nat.reduceSub, Nat.reduceLT, Nat.reduceAdd, Nat.reduceLeDiff, reduceCtorEq, Int.reduceEq, Int.reduceNe, Int.reduceLT, Int.reduceLE, Int.reduceToNat]
        all_goals first | omega | exact ⟨by omega, by omega, by omega⟩
  · cases hs
end Go.Proofs.YtfabdnpeohpgnaaGreatDoor
namespace Go.Proofs.YtfabdnpeohpgnaaGreatDoor
set_option linter.all false
open Go.RowKit
open Go.Lib (index hasPrefix trimPrefix cut indexAny itoa)
theorem cutl1' (s p : List UInt8) : (cut s p).1.length ≤ s.length ∧ (cut s p).2.1.length ≤ s.length := by
  cases h : (cut s p).2.2 with
  | true =>
    have := congrArg List.length (cut_t h)
    simp only [List.length_append] at this; omega
  | false => rw [(cut_f h).1, (cut_f h).2]; simp
theorem psl_mem_len (c : UInt8) : ∀ (l o : List UInt8), o ∈ psl c l → o.length ≤ l.length
  | [], o, h => by rw [psl, List.mem_singleton] at h; rw [h]; simp
  | b :: l, o, h => by
    by_cases hb : b = c
    · subst hb
      rw [psl_cons_eq] at h
      rcases List.mem_cons.1 h with rfl | h
      · simp
      · have := psl_mem_len b l o h; simp only [List.length_cons]; omega
    · obtain ⟨x, t, e1, e2⟩ := psl_cons_ne hb l
      rw [e2] at h
      rcases List.mem_cons.1 h with rfl | h
      · have := psl_mem_len c l x (by rw [e1]; exact List.mem_cons_self ..)
        simp only [List.length_cons]; omega
      · have := psl_mem_len c l o (by rw [e1]; exact List.mem_cons_of_mem _ h)
        simp only [List.length_cons]; omega
def gexsS : Spec := fun xs hp => match xs, hp with
  | [.ref 0 0 0, .str m], [.cells T [(1, .str r), (1, .bool b)]] => some ⟨.own 1 (psl 0 m).length, [.cells T [(1, .str r), (1, .bool (b || (psl 0 m).any fun o => !exOk o))], .row 48 2 (psl 0 m).length (((psl 0 m).map exP).map exV)], m.length ≤ 1000000⟩
  | _, _ => none
def phiX : Phi := phiL [(47, [], splitS), (26, [], cutS), (48, [], gmeantS), (16, [], gtoldS)]
theorem phiX_ok : PhiOk Tryz.prog phiX := phi_cons split_ok (by kernel_rfl) (phi_cons cut_ok (by kernel_rfl) (phi_cons gmeant_ok (by kernel_rfl) (phi_cons gtold_ok (by kernel_rfl) phi_nil)))
theorem phiX_1 : phiX 47 = some ([], splitS) := rfl
theorem phiX_2 : phiX 26 = some ([], cutS) := rfl
theorem phiX_3 : phiX 48 = some ([], gmeantS) := rfl
theorem phiX_4 : phiX 16 = some ([], gtoldS) := rfl
set_option maxHeartbeats 4000000 in
theorem gexs_ok : FnOk Tryz.prog 28 gexsS := by
  refine fn_slim2 Tryz.func28 s_gexs phiX_ok ?_
  intro xs hp r hs hp'
  unfold gexsS at hs
  split at hs
  · injection hs with hs; subst hs
    rename_i m T rr b
    have p1 : m.length ≤ 1000000 := hp'
    have hpl := psl_join_len 0 m
    have hpm := psl_mem_len 0 m
    refine ⟨len_le (by kernel_rfl), ?_⟩
    simp only [c_gexs, phiX_1, splitS, go_sem, Nat.reduceDiv, Nat.reduceMod, ↓reduceIte, Nat.reduceEqDiff, Nat.reduceBEq, Nat.reduceSub, Nat.reduceLT, Nat.reduceAdd, Nat.reduceLeDiff, reduceCtorEq, Int.reduceEq, Int.reduceNe, Int.reduceLT, Int.reduceLE, Int.reduceToNat]
    generalize psl 0 m = ps at *
    refine ⟨by omega, ?_⟩
    refine loop2P [(5, 48, 2)] [0, 5, 13, 14, 15] [0, 1, 2] (fun i : Nat => ⟨[(0, .ref 0 0 0), (5, .own 2 i), (13, .own 1 0), (14, .int .i64 (ps.length : Int)), (15, .int .i64 (i : Int))],
      [.cells T [(1, .str rr), (1, .bool (b || (ps.take i).any fun o => !exOk o))], .row 9 1 0 (ps.map AV.str), .row 48 2 i (((ps.take i).map exP).map exV)]⟩)
      (fun i => i ≤ ps.length) (fun i => ps.length - i) 0 ?_ (Nat.zero_le _) ⟨rfl, by rfl⟩ (fun i hi R hR => ?_)
    · simp only [List.take_zero, List.any_nil, Bool.or_false, List.map_nil]
      rfl
    by_cases hil : i < ps.length
    · have c1 : decide ((i : Int) < (ps.length : Int)) = true := decide_eq_true (by omega)
      have hget := getD_map AV.str ps [] (AV.str []) hil
      have hga : ps.getD i [] = ps[i] := by simp [List.getD_eq_getElem?_getD, List.getElem?_eq_getElem hil]
      have hol := hpm ps[i] (List.getElem_mem _)
      have htk : ps.take (i + 1) = ps.take i ++ [ps[i]] := by rw [List.take_add_one, List.getElem?_eq_getElem hil]; rfl
      generalize ps[i] = o at *
      obtain ⟨l1, l2⟩ := cutl1' o [58]
      have l3 := mea_len (cut o [58]).2.1
      have hlen : (((ps.take i).map exP).map exV ++ [AV.agg [(1, AV.str (cut o [58]).1), (1, AV.str (meaL (cut o [58]).2.1))]]).length = i + 1 := by simp; omega
      have hrow : ((ps.take i).map exP).map exV ++ [AV.agg [(1, AV.str (cut o [58]).1), (1, AV.str (meaL (cut o [58]).2.1))]] = ((ps.take (i + 1)).map exP).map exV := by
        rw [htk, List.map_append, List.map_append]; rfl
      have hany : (b || (ps.take (i + 1)).any fun o => !exOk o) = ((b || (ps.take i).any fun o => !exOk o) || !exOk o) := by
        rw [htk, List.any_append, List.any_cons, List.any_nil, Bool.or_false, Bool.or_assoc]
      have hok : exOk o = ((cut o [58]).2.2 && decide (tolL (meaL (cut o [58]).2.1) = (cut o [58]).2.1)) := rfl
      rw [hok] at hany
      have fin : ∀ (bb : Bool) s'', (b || (ps.take (i + 1)).any fun o => !exOk o) = bb → kp [0, 5, 13, 14, 15] [0, 1, 2].length (toS s'') = some ⟨[(0, .ref 0 0 0), (5, .own 2 (i + 1)), (13, .own 1 0), (14, .int .i64 (ps.length : Int)), (15, .int .i64 ((i : Int) + 1))],
          [.cells T [(1, .str rr), (1, .bool bb)], .row 9 1 0 (ps.map AV.str), .row 48 2 (i + 1) (((ps.take i).map exP).map exV ++ [AV.agg [(1, AV.str (cut o [58]).1), (1, AV.str (meaL (cut o [58]).2.1))]])]⟩ → R s'' := by
        intro bb s'' hbb hk
        refine hR s'' (i + 1) hil (by omega) ?_
        rw [hk, hbb, ← hrow]; rfl
      generalize (b || (ps.take i).any fun o => !exOk o) = bi at *
      cases bi with
      | true =>
        simp only [b_gexs_0, c1, hget, hga, phiX_2, phiX_3, phiX_4, cutS, gmeantS, gtoldS, Int.toNat_natCast, List.length_map, go_sem, Nat.reduceDiv, Nat.reduceMod, ↓reduceIte, Nat.reduceEqDiff, Nat.reduceBEq, Nat.reduceSub, Nat.reduceLT, Nat.reduceAdd, Nat.reduceLeDiff, reduceCtorEq, Int.reduceEq, Int.reduceNe, Int.reduceLT, Int.reduceLE, Int.reduceToNat]
        exact ⟨⟨by omega, by omega⟩, hil, by omega, by omega, ⟨by rw [hlen]; (first | omega | (simp only [lenOk, bytesOk, inI, IntKind.bits, List.length_append, Bs_len, List.length_cons, List.length_nil, List.length_map, List.length_take, List.length_drop, List.length_replicate]; omega)), by rw [hlen]; (first | omega | (simp only [lenOk, bytesOk, inI, IntKind.bits, List.length_append, Bs_len, List.length_cons, List.length_nil, List.length_map, List.length_take, List.length_drop, List.length_replicate]; omega))⟩, ⟨by omega, by omega⟩, fin true _ (by rw [hany]; rfl) rfl⟩
      | false =>
        cases h1 : (cut o [58]).2.2 with
        | false =>
          simp only [b_gexs_0, c1, h1, hget, hga, phiX_2, phiX_3, phiX_4, cutS, gmeantS, gtoldS, Int.toNat_natCast, List.length_map, go_sem, Nat.reduceDiv, Nat.reduceMod, ↓reduceIte, Nat.reduceEqDiff, Nat.reduceBEq, Nat.reduceSub, Nat.reduceLT, Nat.reduceAdd, Nat.reduceLeDiff, reduceCtorEq, Int.reduceEq, Int.reduceNe, Int.reduceLT, Int.reduceLE, Int.reduceToNat]
          exact ⟨⟨by omega, by omega⟩, hil, by omega, by omega, ⟨by rw [hlen]; (first | omega | (simp only [lenOk, bytesOk, inI, IntKind.bits, List.length_append, Bs_len, List.length_cons, List.length_nil, List.length_map, List.length_take, List.length_drop, List.length_replicate]; omega)), by rw [hlen]; (first | omega | (simp only [lenOk, bytesOk, inI, IntKind.bits, List.length_append, Bs_len, List.length_cons, List.length_nil, List.length_map, List.length_take, List.length_drop, List.length_replicate]; omega))⟩, ⟨by omega, by omega⟩, fin true _ (by rw [hany, h1]; rfl) rfl⟩
        | true =>
          cases h2 : decide (tolL (meaL (cut o [58]).2.1) = (cut o [58]).2.1) with
          | true =>
            simp only [b_gexs_0, c1, h1, h2, hget, hga, phiX_2, phiX_3, phiX_4, cutS, gmeantS, gtoldS, Int.toNat_natCast, List.length_map, go_sem, Nat.reduceDiv, Nat.reduceMod, ↓reduceIte, Nat.reduceEqDiff, Nat.reduceBEq, Nat.reduceSub, Nat.reduceLT, Nat.reduceAdd, Nat.reduceLeDiff, reduceCtorEq, Int.reduceEq, Int.reduceNe, Int.reduceLT, Int.reduceLE, Int.reduceToNat]
            exact ⟨⟨by omega, by omega⟩, hil, by omega, by omega, by omega, ⟨by rw [hlen]; (first | omega | (simp only [lenOk, bytesOk, inI, IntKind.bits, List.length_append, Bs_len, List.length_cons, List.length_nil, List.length_map, List.length_take, List.length_drop, List.length_replicate]; omega)), by rw [hlen]; (first | omega | (simp only [lenOk, bytesOk, inI, IntKind.bits, List.length_append, Bs_len, List.length_cons, List.length_nil, List.length_map, List.length_take, List.length_drop, List.length_replicate]; omega))⟩, ⟨by omega, by omega⟩, fin false _ (by rw [hany, h1, h2]; rfl) rfl⟩
          | false =>
            simp only [b_gexs_0, c1, h1, h2, hget, hga, phiX_2, phiX_3, phiX_4, cutS, gmeantS, gtoldS, Int.toNat_natCast, List.length_map, go_sem, Nat.reduceDiv, Nat.reduceMod, ↓reduceIte, Nat.reduceEqDiff, Nat.reduceBEq, Nat.reduceSub, Nat.reduceLT, Nat.reduceAdd, Nat.reduceLeDiff, reduceCtorEq, Int.reduceEq, Int.reduceNe, Int.reduceLT, Int.reduceLE, Int.reduceToNat]
            exact ⟨⟨by omega, by omega⟩, hil, by omega, by omega, by omega, ⟨by rw [hlen]; (first | omega | (simp only [lenOk, bytesOk, inI, IntKind.bits, List.length_append, Bs_len, List.length_cons, List.length_nil, List.length_map, List.length_take, List.length_drop, List.length_replicate]; omega)), by rw [hlen]; (first | omega | (simp only [lenOk, bytesOk, inI, IntKind.bits, List.length_append, Bs_len, List.length_cons, List.length_nil, List.length_map, List.length_take, List.length_drop, List.length_replicate]; omega))⟩, ⟨by omega, by omega⟩, fin true _ (by rw [hany, h1, h2]; rfl) rfl⟩
    · have c1 : decide ((i : Int) < (ps.length : Int)) = false := decide_eq_false (by omega)
      obtain rfl : i = ps.length := by omega
      rw [List.take_length]
      simp only [b_gexs_0, t_gexs_0, r_gexs, c1, go_sem, Nat.reduceDiv, Nat.reduceMod, ↓reduceIte, Nat.reduceEqDiff, Nat.reduceBEq, Nat.reduceSub, Nat.reduceLT, Nat.reduceAdd, Nat.reduceLeDiff, reduceCtorEq, Int.reduceEq, Int.reduceNe, Int.reduceLT, Int.reduceLE, Int.reduceToNat]
  · cases hs
end Go.Proofs.YtfabdnpeohpgnaaGreatDoor
