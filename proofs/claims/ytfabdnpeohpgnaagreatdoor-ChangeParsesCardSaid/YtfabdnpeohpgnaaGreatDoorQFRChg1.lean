import Derived.Test.YtfabdnpeohpgnaaGreatDoorQFGVal
import Derived.Test.YtfabdnpeohpgnaaGreatDoorQFRFDec
import Derived.Test.YtfabdnpeohpgnaaGreatDoorQRChgCode
import Derived.Test.YtfabdnpeohpgnaaGreatDoorQShelf
import Derived.Test.YtfabdnpeohpgnaaGreatDoorQMem
import Derived.Laws.RangeAny
import Derived.Laws.Runes
import Derived.Deep.LoopGhost
import Derived.Deep.QuietTactic
import Derived.WalkMore
namespace Go.Proofs.YtfabdnpeohpgnaaGreatDoor
set_option linter.all false
open Go.RowKit
open Go.Lib (index hasPrefix cut indexAny itoa)
def chu (c : Int) : UInt8 := UInt8.ofNat c.toNat
theorem chu_10 : chu 10 = 10 := rfl
theorem chu_32 : chu 32 = 32 := rfl
theorem chu_0 : chu 0 = 0 := rfl
theorem chu_58 : chu 58 = 58 := rfl
theorem takeS_mem {l : List UInt8} {i : Nat} {x : UInt8} (hi : i < l.length) : x ∈ l.take (i + 1) ↔ x ∈ l.take i ∨ x = l[i] := by
  rw [List.take_add_one, List.getElem?_eq_getElem hi, Option.toList_some, List.mem_append, List.mem_singleton]
def runtilS : Spec := fun xs hp => match xs, hp with
  | [.str s, .int .u8 c], [] => some ⟨.tup [.str (cut s [chu c]).1, .str (cut s [chu c]).2.1], [], s.length ≤ 1000000000000 ∧ 0 ≤ c ∧ c < 256⟩
  | _, _ => none
theorem runtil_ok : FnOk Tryz.prog 29 runtilS := by
  refine fn_slim2 Tryz.func29 s_runtil (Φ := phiL []) phi_nil ?_
  intro xs hp r hs hp'
  unfold runtilS at hs
  split at hs
  · injection hs with hs; subst hs
    rename_i s c
    obtain ⟨p1, p2, p3⟩ := hp'
    refine ⟨len_le (by kernel_rfl), ?_⟩
    have hcc : ((chu c).toNat : Int) = c := by
      unfold chu; rw [UInt8.toNat_ofNat']; omega
    simp only [c_runtil, go_sem, Nat.reduceDiv, Nat.reduceMod, ↓reduceIte, Nat.reduceEqDiff, Nat.reduceBEq, Nat.reduceSub, Nat.reduceLT, Nat.reduceAdd, Nat.reduceLeDiff, reduceCtorEq, Int.reduceEq, Int.reduceNe, Int.reduceLT, Int.reduceLE, Int.reduceToNat]
    refine loop2P [] [0, 1, 6] [] (fun i : Nat => ⟨[(0, .str s), (1, .int .u8 c), (6, .int .i64 (i : Int))], []⟩) (fun i => i ≤ s.length ∧ chu c ∉ s.take i) (fun i => s.length - i) 0 rfl ⟨by omega, by simp⟩ ⟨rfl, rfl⟩ (fun i hi R hR => ?_)
    obtain ⟨i1, i2⟩ := hi
    by_cases hil : i < s.length
    · have c1 : decide ((i : Int) < (s.length : Int)) = true := decide_eq_true (by omega)
      have hl := at8_nat hil
      by_cases he : s[i] = chu c
      · have c2 : decide (at8 s i = c) = true := decide_eq_true (by rw [hl, he]; exact hcc)
        have hsp : s = s.take i ++ chu c :: s.drop (i + 1) := by
          rw [← he, ← List.drop_eq_getElem_cons hil, List.take_append_drop]
        have hcut := cut_1 (b := s.drop (i + 1)) i2
        rw [← hsp] at hcut
        have e1 : ((i : Int) + 1).toNat = i + 1 := by omega
        simp only [b_runtil_0, r_runtil, c1, c2, hcut, e1, Int.toNat_natCast, List.take_length, go_sem, Nat.reduceDiv, Nat.reduceMod, ↓reduceIte, Nat.reduceEqDiff, Nat.reduceBEq, Nat.reduceSub, Nat.reduceLT, Nat.reduceAdd, Nat.reduceLeDiff, reduceCtorEq, Int.reduceEq, Int.reduceNe, Int.reduceLT, Int.reduceLE, Int.reduceToNat]
        repeat' apply And.intro
        all_goals first | omega | (first | omega | (simp only [lenOk, bytesOk, inI, IntKind.bits, List.length_append, Bs_len, List.length_cons, List.length_nil, List.length_map, List.length_take, List.length_drop, List.length_replicate]; omega)) | rfl | skip
      · have c2 : decide (at8 s i = c) = false := decide_eq_false (by
          rw [hl]; intro h; apply he; exact UInt8.toNat_inj.1 (by omega))
        simp only [b_runtil_0, r_runtil, c1, c2, Int.toNat_natCast, go_sem, Nat.reduceDiv, Nat.reduceMod, ↓reduceIte, Nat.reduceEqDiff, Nat.reduceBEq, Nat.reduceSub, Nat.reduceLT, Nat.reduceAdd, Nat.reduceLeDiff, reduceCtorEq, Int.reduceEq, Int.reduceNe, Int.reduceLT, Int.reduceLE, Int.reduceToNat]
        refine ⟨⟨by omega, by omega⟩, ⟨by omega, by omega⟩, hR _ (i + 1) ⟨by omega, fun hm => ?_⟩ (by omega) rfl⟩
        rcases (takeS_mem hil).1 hm with hm | hm
        · exact i2 hm
        · exact he hm.symm
    · have c1 : decide ((i : Int) < (s.length : Int)) = false := decide_eq_false (by omega)
      have e : s.take i = s := List.take_of_length_le (by omega)
      rw [e] at i2
      rw [cut_1n i2]
      simp only [b_runtil_0, t_runtil_0, r_runtil, c1, go_sem, Nat.reduceDiv, Nat.reduceMod, ↓reduceIte, Nat.reduceEqDiff, Nat.reduceBEq, Nat.reduceSub, Nat.reduceLT, Nat.reduceAdd, Nat.reduceLeDiff, reduceCtorEq, Int.reduceEq, Int.reduceNe, Int.reduceLT, Int.reduceLE, Int.reduceToNat]
  · cases hs
def rgkeyedS : Spec := fun xs hp => match xs, hp with
  | [.str s], [] => some ⟨.bool (keyedB s), [], s.length ≤ 1000000000000⟩
  | _, _ => none
set_option maxHeartbeats 2000000 in
theorem rgkeyed_ok : FnOk Tryz.prog 19 rgkeyedS := by
  refine fn_slim2 Tryz.func19 s_rgkeyed (Φ := phiL []) phi_nil ?_
  intro xs hp r hs hp'
  unfold rgkeyedS at hs
  split at hs
  · injection hs with hs; subst hs
    rename_i s
    have p1 : s.length ≤ 1000000000000 := hp'
    refine ⟨len_le (by kernel_rfl), ?_⟩
    by_cases g1 : s.length < 1
    · have d1 : decide ((s.length : Int) < 1) = true := decide_eq_true (by omega)
      have e : s = [] := List.length_eq_zero_iff.1 (by omega)
      have e2 : keyedB s = false := by rw [e]; rfl
      simp only [c_rgkeyed, r_rgkeyed, d1, e2, go_sem, Nat.reduceDiv, Nat.reduceMod, ↓reduceIte, Nat.reduceEqDiff, Nat.reduceBEq, Nat.reduceSub, Nat.reduceLT, Nat.reduceAdd, Nat.reduceLeDiff, reduceCtorEq, Int.reduceEq, Int.reduceNe, Int.reduceLT, Int.reduceLE, Int.reduceToNat]
    have d1 : decide ((s.length : Int) < 1) = false := decide_eq_false (by omega)
    by_cases g2 : 100 < s.length
    · have d2 : decide (100 < (s.length : Int)) = true := decide_eq_true (by omega)
      have e2 : keyedB s = false := by unfold keyedB; rw [decide_eq_false (by omega : ¬ s.length ≤ 100)]; simp
      simp only [c_rgkeyed, r_rgkeyed, d1, d2, e2, go_sem, Nat.reduceDiv, Nat.reduceMod, ↓reduceIte, Nat.reduceEqDiff, Nat.reduceBEq, Nat.reduceSub, Nat.reduceLT, Nat.reduceAdd, Nat.reduceLeDiff, reduceCtorEq, Int.reduceEq, Int.reduceNe, Int.reduceLT, Int.reduceLE, Int.reduceToNat]
    have d2 : decide (100 < (s.length : Int)) = false := decide_eq_false (by omega)
    simp only [c_rgkeyed, d1, d2, go_sem, Nat.reduceDiv, Nat.reduceMod, ↓reduceIte, Nat.reduceEqDiff, Nat.reduceBEq, Nat.reduceSub, Nat.reduceLT, Nat.reduceAdd, Nat.reduceLeDiff, reduceCtorEq, Int.reduceEq, Int.reduceNe, Int.reduceLT, Int.reduceLE, Int.reduceToNat]
    refine loop2P [] [0, 3] [] (fun i : Nat => ⟨[(0, .str s), (3, .int .i64 (i : Int))], []⟩)
      (fun i => i ≤ s.length ∧ (s.take i).all keyC = true) (fun i => s.length - i) 0 (by rfl) ⟨Nat.zero_le _, by simp⟩ ⟨rfl, by rfl⟩ (fun i hi R hR => ?_)
    obtain ⟨i1, i2⟩ := hi
    by_cases hil : i < s.length
    · have c1 : decide ((i : Int) < (s.length : Int)) = true := decide_eq_true (by omega)
      have hat := at8_nat hil
      have hk := keyC_int s[i]
      have hlt := s[i].toNat_lt
      have hnext : keyC s[i] = true → (s.take (i + 1)).all keyC = true := fun h => by
        rw [List.take_add_one, List.getElem?_eq_getElem hil, Option.toList_some, List.all_append, i2]; simp [h]
      have hbad : keyC s[i] = false → keyedB s = false := fun h => by
        unfold keyedB
        rw [show s.all keyC = false from List.all_eq_false.2 ⟨s[i], List.getElem_mem _, by rw [h]; simp⟩, Bool.and_false]
      generalize hn : (s[i].toNat : Int) = n at *
      have hn0 : 0 ≤ n := by omega
      have hc : n = 45 ∨ n = 95 ∨ (97 ≤ n ∧ n ≤ 122) ∨ (65 ≤ n ∧ n ≤ 90) ∨ (48 ≤ n ∧ n ≤ 57) ∨ n < 45 ∨ (45 < n ∧ n < 48) ∨ (57 < n ∧ n < 65) ∨ (90 < n ∧ n < 95) ∨ n = 96 ∨ 122 < n := by omega
      rcases hc with h | h | h | h | h | h | h | h | h | h | h
      all_goals (
        first | have f1 : decide (97 ≤ n) = true := decide_eq_true (by omega) | have f1 : decide (97 ≤ n) = false := decide_eq_false (by omega)
        first | have f2 : decide (n ≤ 122) = true := decide_eq_true (by omega) | have f2 : decide (n ≤ 122) = false := decide_eq_false (by omega)
        first | have f3 : decide (65 ≤ n) = true := decide_eq_true (by omega) | have f3 : decide (65 ≤ n) = false := decide_eq_false (by omega)
        first | have f4 : decide (n ≤ 90) = true := decide_eq_true (by omega) | have f4 : decide (n ≤ 90) = false := decide_eq_false (by omega)
        first | have f5 : decide (48 ≤ n) = true := decide_eq_true (by omega) | have f5 : decide (48 ≤ n) = false := decide_eq_false (by omega)
        first | have f6 : decide (n ≤ 57) = true := decide_eq_true (by omega) | have f6 : decide (n ≤ 57) = false := decide_eq_false (by omega)
        first | have f7 : decide (n = 45) = true := decide_eq_true (by omega) | have f7 : decide (n = 45) = false := decide_eq_false (by omega)
        first | have f8 : decide (n = 95) = true := decide_eq_true (by omega) | have f8 : decide (n = 95) = false := decide_eq_false (by omega)
        rw [f1, f2, f3, f4, f5, f6, f7, f8] at hk
        simp only [Bool.and_true, Bool.and_false, Bool.or_true, Bool.or_false, Bool.true_or, Bool.false_or] at hk
        clear h
        simp only [b_rgkeyed_0, r_rgkeyed, c1, hat, f1, f2, f3, f4, f5, f6, f7, f8, Int.toNat_natCast, go_sem, Nat.reduceDiv, Nat.reduceMod, ↓reduceIte, Nat.reduceEqDiff, Nat.reduceBEq, Nat.reduceSub, Nat.reduceLT, Nat.reduceAdd, Nat.reduceLeDiff, reduceCtorEq, Int.reduceEq, Int.reduceNe, Int.reduceLT, Int.reduceLE, Int.reduceToNat])
      all_goals first | exact ⟨⟨by omega, by omega⟩, ⟨by omega, by omega⟩, hR _ (i + 1) ⟨hil, hnext hk⟩ (by omega) rfl⟩ | exact ⟨⟨by omega, by omega⟩, by rw [hbad hk]⟩
    · have c1 : decide ((i : Int) < (s.length : Int)) = false := decide_eq_false (by omega)
      rw [List.take_of_length_le (by omega)] at i2
      have hkb : keyedB s = true := by
        unfold keyedB; rw [i2, Bool.and_true, decide_eq_true (by omega : s.length ≤ 100), Bool.and_true]
        exact decide_eq_true (fun e => by rw [e] at g1; exact g1 (by decide))
      rw [hkb]
      simp only [b_rgkeyed_0, t_rgkeyed_0, r_rgkeyed, c1, go_sem, Nat.reduceDiv, Nat.reduceMod, ↓reduceIte, Nat.reduceEqDiff, Nat.reduceBEq, Nat.reduceSub, Nat.reduceLT, Nat.reduceAdd, Nat.reduceLeDiff, reduceCtorEq, Int.reduceEq, Int.reduceNe, Int.reduceLT, Int.reduceLE, Int.reduceToNat]
  · cases hs
def rgvalueS : Spec := fun xs hp => match xs, hp with
  | [.str s], [] => some ⟨.str (tolL s), [], s.length ≤ 100000000⟩
  | _, _ => none
theorem Bs_two92 (l : List UInt8) (u : UInt8) : Bs l ++ [.int .u8 92, .int .u8 ((u.toNat : Nat) : Int)] = Bs (l ++ [92, u]) := by unfold Bs; rw [List.map_append]; rfl
set_option maxHeartbeats 2000000 in
theorem rgvalue_ok : FnOk Tryz.prog 23 rgvalueS := by
  refine fn_slim2 Tryz.func23 s_rgvalue (Φ := phiL []) phi_nil ?_
  intro xs hp r hs hp'
  unfold rgvalueS at hs
  split at hs
  · injection hs with hs; subst hs
    rename_i s
    have p1 : s.length ≤ 100000000 := hp'
    refine ⟨len_le (by kernel_rfl), ?_⟩
    simp only [c_rgvalue, go_sem, Nat.reduceDiv, Nat.reduceMod, ↓reduceIte, Nat.reduceEqDiff, Nat.reduceBEq, Nat.reduceSub, Nat.reduceLT, Nat.reduceAdd, Nat.reduceLeDiff, reduceCtorEq, Int.reduceEq, Int.reduceNe, Int.reduceLT, Int.reduceLE, Int.reduceToNat]
    refine loop2P [(3, 5, 1)] [0, 3, 4] [0] (fun i : Nat => ⟨[(0, .str s), (3, .own 0 i), (4, .int .i64 (i : Int))], [.row 5 1 i (Bs (tolL (s.take i)))]⟩)
      (fun i => i ≤ s.length) (fun i => s.length - i) 0 (by rfl) (Nat.zero_le _) ⟨rfl, by rfl⟩ (fun i hi R hR => ?_)
    by_cases hil : i < s.length
    · have c1 : decide ((i : Int) < (s.length : Int)) = true := decide_eq_true (by omega)
      have hat := at8_nat hil
      have htk := tol_take s hil
      have htl := tol_take_len s i
      have htl2 := tol_take_len s (i + 1)
      generalize hc : s[i] = c at *
      have g1 : decide (((c.toNat : Nat) : Int) = 92) = decide (c = 92) := u8_eq c 92
      have g2 : decide (((c.toNat : Nat) : Int) = 10) = decide (c = 10) := u8_eq c 10
      have g3 : decide (((c.toNat : Nat) : Int) = 13) = decide (c = 13) := u8_eq c 13
      have g4 : decide (((c.toNat : Nat) : Int) = 0) = decide (c = 0) := u8_eq c 0
      have hb1 : ∀ l : List UInt8, Bs l ++ [.int .u8 92, .int .u8 92] = Bs (l ++ [92, 92]) := fun l => Bs_two92 l 92
      have hb2 : ∀ l : List UInt8, Bs l ++ [.int .u8 92, .int .u8 110] = Bs (l ++ [92, 110]) := fun l => Bs_two92 l 110
      have hb3 : ∀ l : List UInt8, Bs l ++ [.int .u8 92, .int .u8 114] = Bs (l ++ [92, 114]) := fun l => Bs_two92 l 114
      have hb4 : ∀ l : List UInt8, Bs l ++ [.int .u8 92, .int .u8 48] = Bs (l ++ [92, 48]) := fun l => Bs_two92 l 48
      have hb5 : ∀ l : List UInt8, Bs l ++ [.int .u8 ((c.toNat : Nat) : Int)] = Bs (l ++ [c]) := fun l => Bs_push
      have fin : ∀ e : List UInt8, escC c = e → tolL (s.take (i + 1)) = tolL (s.take i) ++ e := fun e he => by rw [htk, he]
      by_cases h1 : c = 92
      · have d1 : decide (c = 92) = true := decide_eq_true h1
        have e := fin [92, 92] (by rw [h1]; rfl)
        simp only [b_rgvalue_0, c1, hat, g1, d1, hb1, Int.toNat_natCast, Bs_len, go_sem, Nat.reduceDiv, Nat.reduceMod, ↓reduceIte, Nat.reduceEqDiff, Nat.reduceBEq, Nat.reduceSub, Nat.reduceLT, Nat.reduceAdd, Nat.reduceLeDiff, reduceCtorEq, Int.reduceEq, Int.reduceNe, Int.reduceLT, Int.reduceLE, Int.reduceToNat]
        exact ⟨⟨by omega, by omega⟩, ⟨by (first | omega | (simp only [lenOk, bytesOk, inI, IntKind.bits, List.length_append, Bs_len, List.length_cons, List.length_nil, List.length_map, List.length_take, List.length_drop, List.length_replicate]; omega)), by (first | omega | (simp only [lenOk, bytesOk, inI, IntKind.bits, List.length_append, Bs_len, List.length_cons, List.length_nil, List.length_map, List.length_take, List.length_drop, List.length_replicate]; omega))⟩, ⟨by omega, by omega⟩, hR _ (i + 1) hil (by omega) (by rw [e]; rfl)⟩
      have d1 : decide (c = 92) = false := decide_eq_false h1
      by_cases h2 : c = 10
      · have d2 : decide (c = 10) = true := decide_eq_true h2
        have e := fin [92, 110] (by rw [h2]; rfl)
        simp only [b_rgvalue_0, c1, hat, g1, d1, g2, d2, hb2, Int.toNat_natCast, Bs_len, go_sem, Nat.reduceDiv, Nat.reduceMod, ↓reduceIte, Nat.reduceEqDiff, Nat.reduceBEq, Nat.reduceSub, Nat.reduceLT, Nat.reduceAdd, Nat.reduceLeDiff, reduceCtorEq, Int.reduceEq, Int.reduceNe, Int.reduceLT, Int.reduceLE, Int.reduceToNat]
        exact ⟨⟨by omega, by omega⟩, ⟨by (first | omega | (simp only [lenOk, bytesOk, inI, IntKind.bits, List.length_append, Bs_len, List.length_cons, List.length_nil, List.length_map, List.length_take, List.length_drop, List.length_replicate]; omega)), by (first | omega | (simp only [lenOk, bytesOk, inI, IntKind.bits, List.length_append, Bs_len, List.length_cons, List.length_nil, List.length_map, List.length_take, List.length_drop, List.length_replicate]; omega))⟩, ⟨by omega, by omega⟩, hR _ (i + 1) hil (by omega) (by rw [e]; rfl)⟩
      have d2 : decide (c = 10) = false := decide_eq_false h2
      by_cases h3 : c = 13
      · have d3 : decide (c = 13) = true := decide_eq_true h3
        have e := fin [92, 114] (by rw [h3]; rfl)
        simp only [b_rgvalue_0, c1, hat, g1, d1, g2, d2, g3, d3, hb3, Int.toNat_natCast, Bs_len, go_sem, Nat.reduceDiv, Nat.reduceMod, ↓reduceIte, Nat.reduceEqDiff, Nat.reduceBEq, Nat.reduceSub, Nat.reduceLT, Nat.reduceAdd, Nat.reduceLeDiff, reduceCtorEq, Int.reduceEq, Int.reduceNe, Int.reduceLT, Int.reduceLE, Int.reduceToNat]
        exact ⟨⟨by omega, by omega⟩, ⟨by (first | omega | (simp only [lenOk, bytesOk, inI, IntKind.bits, List.length_append, Bs_len, List.length_cons, List.length_nil, List.length_map, List.length_take, List.length_drop, List.length_replicate]; omega)), by (first | omega | (simp only [lenOk, bytesOk, inI, IntKind.bits, List.length_append, Bs_len, List.length_cons, List.length_nil, List.length_map, List.length_take, List.length_drop, List.length_replicate]; omega))⟩, ⟨by omega, by omega⟩, hR _ (i + 1) hil (by omega) (by rw [e]; rfl)⟩
      have d3 : decide (c = 13) = false := decide_eq_false h3
      by_cases h4 : c = 0
      · have d4 : decide (c = 0) = true := decide_eq_true h4
        have e := fin [92, 48] (by rw [h4]; rfl)
        simp only [b_rgvalue_0, c1, hat, g1, d1, g2, d2, g3, d3, g4, d4, hb4, Int.toNat_natCast, Bs_len, go_sem, Nat.reduceDiv, Nat.reduceMod, ↓reduceIte, Nat.reduceEqDiff, Nat.reduceBEq, Nat.reduceSub, Nat.reduceLT, Nat.reduceAdd, Nat.reduceLeDiff, reduceCtorEq, Int.reduceEq, Int.reduceNe, Int.reduceLT, Int.reduceLE, Int.reduceToNat]
        exact ⟨⟨by omega, by omega⟩, ⟨by (first | omega | (simp only [lenOk, bytesOk, inI, IntKind.bits, List.length_append, Bs_len, List.length_cons, List.length_nil, List.length_map, List.length_take, List.length_drop, List.length_replicate]; omega)), by (first | omega | (simp only [lenOk, bytesOk, inI, IntKind.bits, List.length_append, Bs_len, List.length_cons, List.length_nil, List.length_map, List.length_take, List.length_drop, List.length_replicate]; omega))⟩, ⟨by omega, by omega⟩, hR _ (i + 1) hil (by omega) (by rw [e]; rfl)⟩
      have d4 : decide (c = 0) = false := decide_eq_false h4
      have e := fin [c] (by unfold escC; rw [if_neg h1, if_neg h2, if_neg h3, if_neg h4])
      simp only [b_rgvalue_0, c1, hat, g1, d1, g2, d2, g3, d3, g4, d4, hb5, Int.toNat_natCast, Bs_len, go_sem, Nat.reduceDiv, Nat.reduceMod, ↓reduceIte, Nat.reduceEqDiff, Nat.reduceBEq, Nat.reduceSub, Nat.reduceLT, Nat.reduceAdd, Nat.reduceLeDiff, reduceCtorEq, Int.reduceEq, Int.reduceNe, Int.reduceLT, Int.reduceLE, Int.reduceToNat]
      exact ⟨⟨by omega, by omega⟩, ⟨by omega, by omega⟩, ⟨by (first | omega | (simp only [lenOk, bytesOk, inI, IntKind.bits, List.length_append, Bs_len, List.length_cons, List.length_nil, List.length_map, List.length_take, List.length_drop, List.length_replicate]; omega)), by (first | omega | (simp only [lenOk, bytesOk, inI, IntKind.bits, List.length_append, Bs_len, List.length_cons, List.length_nil, List.length_map, List.length_take, List.length_drop, List.length_replicate]; omega))⟩, ⟨by omega, by omega⟩, hR _ (i + 1) hil (by omega) (by rw [e]; rfl)⟩
    · have c1 : decide ((i : Int) < (s.length : Int)) = false := decide_eq_false (by omega)
      have e : s.take i = s := List.take_of_length_le (by omega)
      rw [e]
      simp only [b_rgvalue_0, t_rgvalue_0, r_rgvalue, c1, unB_Bs, go_sem, Nat.reduceDiv, Nat.reduceMod, ↓reduceIte, Nat.reduceEqDiff, Nat.reduceBEq, Nat.reduceSub, Nat.reduceLT, Nat.reduceAdd, Nat.reduceLeDiff, reduceCtorEq, Int.reduceEq, Int.reduceNe, Int.reduceLT, Int.reduceLE, Int.reduceToNat]
  · cases hs
def rbackS : Spec := fun xs hp => match xs, hp with
  | [.str s], [] => some ⟨.str (meaL s), [], s.length ≤ 100000000⟩
  | _, _ => none
set_option maxHeartbeats 2000000 in
theorem rback_ok : FnOk Tryz.prog 32 rbackS := by
  refine fn_slim2 Tryz.func32 s_rback (Φ := phiL []) phi_nil ?_
  intro xs hp r hs hp'
  unfold rbackS at hs
  split at hs
  · injection hs with hs; subst hs
    rename_i s
    have p1 : s.length ≤ 100000000 := hp'
    refine ⟨len_le (by kernel_rfl), ?_⟩
    simp only [c_rback, go_sem, Nat.reduceDiv, Nat.reduceMod, ↓reduceIte, Nat.reduceEqDiff, Nat.reduceBEq, Nat.reduceSub, Nat.reduceLT, Nat.reduceAdd, Nat.reduceLeDiff, reduceCtorEq, Int.reduceEq, Int.reduceNe, Int.reduceLT, Int.reduceLE, Int.reduceToNat]
    have hml := mea_len s
    refine loop2P [(3, 5, 1)] [0, 3, 4] [0] (fun q : Nat × Nat × List UInt8 => ⟨[(0, .str s), (3, .own 0 q.2.1), (4, .int .i64 (q.1 : Int))], [.row 5 1 q.2.1 (Bs q.2.2)]⟩)
      (fun q => q.1 ≤ s.length ∧ q.2.2 ++ meaL (s.drop q.1) = meaL s) (fun q => s.length - q.1) (0, 0, []) (by rfl) ⟨Nat.zero_le _, rfl⟩ ⟨rfl, by rfl⟩ (fun q hq R hR => ?_)
    obtain ⟨i, v, w⟩ := q
    simp only at hq hR ⊢
    obtain ⟨i1, i2⟩ := hq
    have hwl : w.length ≤ s.length := by have := congrArg List.length i2; rw [List.length_append] at this; omega
    have hb : ∀ (w : List UInt8) (u : UInt8), Bs w ++ [AV.int .u8 ((u.toNat : Nat) : Int)] = Bs (w ++ [u]) := fun w u => Bs_push
    have hb10 : ∀ (w : List UInt8), Bs w ++ [AV.int .u8 10] = Bs (w ++ [10]) := fun w => hb w 10
    have hb13 : ∀ (w : List UInt8), Bs w ++ [AV.int .u8 13] = Bs (w ++ [13]) := fun w => hb w 13
    have hb00 : ∀ (w : List UInt8), Bs w ++ [AV.int .u8 0] = Bs (w ++ [0]) := fun w => hb w 0
    by_cases hil : i < s.length
    · have c1 : decide ((i : Int) < (s.length : Int)) = true := decide_eq_true (by omega)
      have hd : s.drop i = s[i] :: s.drop (i + 1) := List.drop_eq_getElem_cons hil
      have hat := at8_nat hil
      have e1 : ((i : Int) + 1).toNat = i + 1 := by omega
      rw [hd] at i2
      generalize hc : s[i] = c at *
      have g1 : decide (((c.toNat : Nat) : Int) = 92) = decide (c = 92) := u8_eq c 92
      by_cases h1 : c = 92
      · have d1 : decide (c = 92) = true := decide_eq_true h1
        by_cases hl2 : i + 1 < s.length
        · have c2 : decide ((i : Int) + 1 < (s.length : Int)) = true := decide_eq_true (by omega)
          have hat2 := at8_nat hl2
          have hd2 : s.drop (i + 1) = s[i + 1] :: s.drop (i + 1 + 1) := List.drop_eq_getElem_cons hl2
          rw [hd2, h1, mea_pair] at i2
          generalize hdd : s[i + 1] = d at *
          have k1 : decide (((d.toNat : Nat) : Int) = 110) = decide (d = 110) := u8_eq d 110
          have k2 : decide (((d.toNat : Nat) : Int) = 114) = decide (d = 114) := u8_eq d 114
          have k3 : decide (((d.toNat : Nat) : Int) = 48) = decide (d = 48) := u8_eq d 48
          have fin : ∀ e : UInt8, meC d = e → (w ++ [e]) ++ meaL (s.drop (i + 1 + 1)) = meaL s := fun e he => by rw [← i2, he]; simp
          by_cases m1 : d = 110
          · have j1 : decide (d = 110) = true := decide_eq_true m1
            have e := fin 10 (by rw [m1]; rfl)
            simp only [b_rback_0, c1, c2, hat, hat2, g1, d1, k1, j1, e1, hb10, Int.toNat_natCast, Bs_len, go_sem, Nat.reduceDiv, Nat.reduceMod, ↓reduceIte, Nat.reduceEqDiff, Nat.reduceBEq, Nat.reduceSub, Nat.reduceLT, Nat.reduceAdd, Nat.reduceLeDiff, reduceCtorEq, Int.reduceEq, Int.reduceNe, Int.reduceLT, Int.reduceLE, Int.reduceToNat]
            (repeat' apply And.intro); all_goals first | omega | (first | omega | (simp only [lenOk, bytesOk, inI, IntKind.bits, List.length_append, Bs_len, List.length_cons, List.length_nil, List.length_map, List.length_take, List.length_drop, List.length_replicate]; omega)) | skip
            exact hR _ (i + 1 + 1, v + 1, w ++ [10]) ⟨by simp only; omega, e⟩ (by simp only; omega) rfl
          have j1 : decide (d = 110) = false := decide_eq_false m1
          by_cases m2 : d = 114
          · have j2 : decide (d = 114) = true := decide_eq_true m2
            have e := fin 13 (by rw [m2]; rfl)
            simp only [b_rback_0, c1, c2, hat, hat2, g1, d1, k1, j1, k2, j2, e1, hb13, Int.toNat_natCast, Bs_len, go_sem, Nat.reduceDiv, Nat.reduceMod, ↓reduceIte, Nat.reduceEqDiff, Nat.reduceBEq, Nat.reduceSub, Nat.reduceLT, Nat.reduceAdd, Nat.reduceLeDiff, reduceCtorEq, Int.reduceEq, Int.reduceNe, Int.reduceLT, Int.reduceLE, Int.reduceToNat]
            (repeat' apply And.intro); all_goals first | omega | (first | omega | (simp only [lenOk, bytesOk, inI, IntKind.bits, List.length_append, Bs_len, List.length_cons, List.length_nil, List.length_map, List.length_take, List.length_drop, List.length_replicate]; omega)) | skip
            exact hR _ (i + 1 + 1, v + 1, w ++ [13]) ⟨by simp only; omega, e⟩ (by simp only; omega) rfl
          have j2 : decide (d = 114) = false := decide_eq_false m2
          by_cases m3 : d = 48
          · have j3 : decide (d = 48) = true := decide_eq_true m3
            have e := fin 0 (by rw [m3]; rfl)
            simp only [b_rback_0, c1, c2, hat, hat2, g1, d1, k1, j1, k2, j2, k3, j3, e1, hb00, Int.toNat_natCast, Bs_len, go_sem, Nat.reduceDiv, Nat.reduceMod, ↓reduceIte, Nat.reduceEqDiff, Nat.reduceBEq, Nat.reduceSub, Nat.reduceLT, Nat.reduceAdd, Nat.reduceLeDiff, reduceCtorEq, Int.reduceEq, Int.reduceNe, Int.reduceLT, Int.reduceLE, Int.reduceToNat]
            (repeat' apply And.intro); all_goals first | omega | (first | omega | (simp only [lenOk, bytesOk, inI, IntKind.bits, List.length_append, Bs_len, List.length_cons, List.length_nil, List.length_map, List.length_take, List.length_drop, List.length_replicate]; omega)) | skip
            exact hR _ (i + 1 + 1, v + 1, w ++ [0]) ⟨by simp only; omega, e⟩ (by simp only; omega) rfl
          have j3 : decide (d = 48) = false := decide_eq_false m3
          have e := fin d (by unfold meC; rw [if_neg m1, if_neg m2, if_neg m3])
          simp only [b_rback_0, c1, c2, hat, hat2, g1, d1, k1, j1, k2, j2, k3, j3, e1, hb, Int.toNat_natCast, Bs_len, go_sem, Nat.reduceDiv, Nat.reduceMod, ↓reduceIte, Nat.reduceEqDiff, Nat.reduceBEq, Nat.reduceSub, Nat.reduceLT, Nat.reduceAdd, Nat.reduceLeDiff, reduceCtorEq, Int.reduceEq, Int.reduceNe, Int.reduceLT, Int.reduceLE, Int.reduceToNat]
          (repeat' apply And.intro); all_goals first | omega | (first | omega | (simp only [lenOk, bytesOk, inI, IntKind.bits, List.length_append, Bs_len, List.length_cons, List.length_nil, List.length_map, List.length_take, List.length_drop, List.length_replicate]; omega)) | skip
          exact hR _ (i + 1 + 1, v + 1, w ++ [d]) ⟨by simp only; omega, e⟩ (by simp only; omega) rfl
        · have c2 : decide ((i : Int) + 1 < (s.length : Int)) = false := decide_eq_false (by omega)
          have hd2 : s.drop (i + 1) = [] := List.drop_of_length_le (by omega)
          rw [hd2] at i2
          have e : (w ++ [c]) ++ meaL (s.drop (i + 1)) = meaL s := by rw [hd2, ← i2]; simp [meaL]
          simp only [b_rback_0, c1, c2, hat, g1, d1, hb, Int.toNat_natCast, Bs_len, go_sem, Nat.reduceDiv, Nat.reduceMod, ↓reduceIte, Nat.reduceEqDiff, Nat.reduceBEq, Nat.reduceSub, Nat.reduceLT, Nat.reduceAdd, Nat.reduceLeDiff, reduceCtorEq, Int.reduceEq, Int.reduceNe, Int.reduceLT, Int.reduceLE, Int.reduceToNat]
          (repeat' apply And.intro); all_goals first | omega | (first | omega | (simp only [lenOk, bytesOk, inI, IntKind.bits, List.length_append, Bs_len, List.length_cons, List.length_nil, List.length_map, List.length_take, List.length_drop, List.length_replicate]; omega)) | skip
          exact hR _ (i + 1, v + 1, w ++ [c]) ⟨hil, e⟩ (by simp only; omega) rfl
      · have d1 : decide (c = 92) = false := decide_eq_false h1
        rw [mea_other h1] at i2
        simp only [b_rback_0, c1, hat, g1, d1, hb, Int.toNat_natCast, Bs_len, go_sem, Nat.reduceDiv, Nat.reduceMod, ↓reduceIte, Nat.reduceEqDiff, Nat.reduceBEq, Nat.reduceSub, Nat.reduceLT, Nat.reduceAdd, Nat.reduceLeDiff, reduceCtorEq, Int.reduceEq, Int.reduceNe, Int.reduceLT, Int.reduceLE, Int.reduceToNat]
        (repeat' apply And.intro); all_goals first | omega | (first | omega | (simp only [lenOk, bytesOk, inI, IntKind.bits, List.length_append, Bs_len, List.length_cons, List.length_nil, List.length_map, List.length_take, List.length_drop, List.length_replicate]; omega)) | skip
        exact hR _ (i + 1, v + 1, w ++ [c]) ⟨hil, by rw [← i2]; simp⟩ (by simp only; omega) rfl
    · have c1 : decide ((i : Int) < (s.length : Int)) = false := decide_eq_false (by omega)
      rw [List.drop_of_length_le (by omega)] at i2
      have i2 : w = meaL s := by rw [← i2]; simp [meaL]
      subst i2
      simp only [b_rback_0, t_rback_0, r_rback, c1, unB_Bs, go_sem, Nat.reduceDiv, Nat.reduceMod, ↓reduceIte, Nat.reduceEqDiff, Nat.reduceBEq, Nat.reduceSub, Nat.reduceLT, Nat.reduceAdd, Nat.reduceLeDiff, reduceCtorEq, Int.reduceEq, Int.reduceNe, Int.reduceLT, Int.reduceLE, Int.reduceToNat]
  · cases hs
noncomputable def rnumberS : Spec := fun xs hp => match xs, hp with
  | [.str s], [] => some ⟨.int .i64 (nmV s), [], s.length ≤ 1000000⟩
  | _, _ => none
theorem rnumber_ok : FnOk Tryz.prog 31 rnumberS := by
  refine fn_slim2 Tryz.func31 s_rnumber (Φ := phiL [(49, [], rfdecS)]) (phi_cons rfdec_ok (by kernel_rfl) phi_nil) ?_
  intro xs hp r hs hp'
  unfold rnumberS at hs
  split at hs
  · injection hs with hs; subst hs
    rename_i s
    have p1 : s.length ≤ 1000000 := hp'
    refine ⟨len_le (by kernel_rfl), ?_⟩
    have n1 := decN_lt s
    have n2 := decN_lt (s.drop 1)
    cases s with
    | nil =>
      have e : nmV [] = (decN [] : Int) := by unfold nmV; rfl
      simp only [c_rnumber, r_rnumber, rfdecS, e, go_sem, Nat.reduceDiv, Nat.reduceMod, ↓reduceIte, Nat.reduceEqDiff, Nat.reduceBEq, Nat.reduceSub, Nat.reduceLT, Nat.reduceAdd, Nat.reduceLeDiff, reduceCtorEq, Int.reduceEq, Int.reduceNe, Int.reduceLT, Int.reduceLE, Int.reduceToNat]
    | cons x l =>
      have d1 : decide (0 < ((x :: l).length : Int)) = true := decide_eq_true (by rw [List.length_cons]; omega)
      have hat : at8 (x :: l) 0 = ((x.toNat : Nat) : Int) := rfl
      have g1 : decide (((x.toNat : Nat) : Int) = 45) = decide (x = 45) := u8_eq x 45
      have ht : (x :: l).take (x :: l).length = x :: l := List.take_length
      by_cases h : x = 45
      · have d2 : decide (x = 45) = true := decide_eq_true h
        have e : nmV (x :: l) = -(decN ((x :: l).drop 1) : Int) := by unfold nmV; rw [if_pos (by rw [h]; rfl)]
        have hl0 : 0 < (x :: l).length := by simp
        generalize hL : (x :: l) = L at *
        simp only [c_rnumber, r_rnumber, rfdecS, e, d1, hat, g1, d2, ht, Int.toNat_natCast, go_sem, Nat.reduceDiv, Nat.reduceMod, ↓reduceIte, Nat.reduceEqDiff, Nat.reduceBEq, Nat.reduceSub, Nat.reduceLT, Nat.reduceAdd, Nat.reduceLeDiff, reduceCtorEq, Int.reduceEq, Int.reduceNe, Int.reduceLT, Int.reduceLE, Int.reduceToNat]
        (repeat' apply And.intro)
        all_goals first | omega | rfl | (first | omega | (simp only [lenOk, bytesOk, inI, IntKind.bits, List.length_append, Bs_len, List.length_cons, List.length_nil, List.length_map, List.length_take, List.length_drop, List.length_replicate]; omega)) | skip
      · have d2 : decide (x = 45) = false := decide_eq_false h
        have e : nmV (x :: l) = (decN (x :: l) : Int) := by unfold nmV; rw [if_neg (by rw [List.head?_cons]; intro hh; injection hh with hh; exact h hh)]
        have hl0 : 0 < (x :: l).length := by simp
        generalize hL : (x :: l) = L at *
        simp only [c_rnumber, r_rnumber, rfdecS, e, d1, hat, g1, d2, ht, Int.toNat_natCast, go_sem, Nat.reduceDiv, Nat.reduceMod, ↓reduceIte, Nat.reduceEqDiff, Nat.reduceBEq, Nat.reduceSub, Nat.reduceLT, Nat.reduceAdd, Nat.reduceLeDiff, reduceCtorEq, Int.reduceEq, Int.reduceNe, Int.reduceLT, Int.reduceLE, Int.reduceToNat]
        (repeat' apply And.intro)
        all_goals first | omega | rfl | (first | omega | (simp only [lenOk, bytesOk, inI, IntKind.bits, List.length_append, Bs_len, List.length_cons, List.length_nil, List.length_map, List.length_take, List.length_drop, List.length_replicate]; omega)) | skip
  · cases hs
end Go.Proofs.YtfabdnpeohpgnaaGreatDoor
namespace Go.Proofs.YtfabdnpeohpgnaaGreatDoor
set_option linter.all false
open Go.RowKit
open Go.Lib (index hasPrefix trimPrefix cut indexAny)
end Go.Proofs.YtfabdnpeohpgnaaGreatDoor
namespace Go.Proofs.YtfabdnpeohpgnaaGreatDoor
set_option linter.all false
open Go.RowKit
def asciiB (p : List UInt8) : Bool := p.all (fun b => decide (b.toNat < 128)) && decide (2 ≤ p.length) && decide (p.length ≤ 8)
structure AsciiSet (C : ByteArray) : Prop where
  low : ∀ b ∈ C.data.toList, b.toNat < 128
  two : 2 ≤ C.size
  few : C.size ≤ 8
theorem asciiSet_of {p : List UInt8} (h : asciiB p = true) : AsciiSet ⟨p.toArray⟩ := by
  simp only [asciiB, Bool.and_eq_true, List.all_eq_true, decide_eq_true_eq] at h
  exact ⟨h.1.1, h.1.2, h.2⟩
section
variable {C : ByteArray} (hA : AsciiSet C)
include hA
theorem set_hi (b : UInt8) (hb : 128 ≤ b.toNat) : C.data.toList.contains b = false := by
  rw [Bool.eq_false_iff]
  intro h
  have := hA.low b (by simpa using h)
  omega
theorem set_get (i : Nat) (h : i < C.size) : (C[i]'h).toNat < 128 := by
  refine hA.low _ ?_
  have := Lib.data_getElem? C i h
  exact List.mem_of_getElem? this
theorem ibS (n : Nat) (b : UInt8) (hb : 128 ≤ b.toNat) : Lib.indexByte (List.take (C.size - (n + 1)) (List.drop (n + 1) C.data.toList)) b = -1 := by
  have gen : ∀ l : List UInt8, (∀ x ∈ l, x.toNat < 128) → Lib.indexByte l b = -1 := by
    intro l
    induction l with
    | nil => intro _; rfl
    | cons x l ih =>
      intro h
      have hx := h x (by simp)
      have e : (x == b) = false := beq_eq_false_iff_ne.2 (by rintro rfl; omega)
      simp [Lib.indexByte, e, ih fun y hy => h y (by simp [hy])]
  exact gen _ fun x hx => hA.low x (List.mem_of_mem_drop (List.mem_of_mem_take hx))
end
theorem encode_hi (r : Int) (h : 128 ≤ r) : ∃ l : List UInt8, (Utf8.encode r).data.toList = l ∧ 2 ≤ l.length ∧ l.length ≤ 4 ∧ 128 ≤ (l.getD (l.length - 1) 0).toNat := by
  refine ⟨_, rfl, ?_⟩
  unfold Utf8.encode
  dsimp only
  have hc : 128 ≤ (if Utf8.valid r = true then r.toNat else Utf8.runeError) := by
    split
    · omega
    · decide
  generalize (if Utf8.valid r = true then r.toNat else Utf8.runeError) = c at *
  by_cases h2 : c < 2048
  · simp [show ¬ c < 128 by omega, h2]; omega
  · by_cases h3 : c < 65536
    · simp [show ¬ c < 128 by omega, h2, h3]; omega
    · simp [show ¬ c < 128 by omega, h2, h3]; omega
set_option maxHeartbeats 2000000 in
set_option maxRecDepth 1000000 in
theorem indexRune_err {C : ByteArray} (hA : AsciiSet C) (w : World) :
    Calls Tryz.prog 77 #[.string C, .int .i32 65533] w fun e w' => e = .returned (.int .i64 (-1)) ∧ Below w.heap.size w w' := by
  have HA : Aside (AsciiSet C) := hA
  clear hA
  go_enter Tryz.func77, Tryz.ntmps77
  go_wp2
  go_loopg [5, 6] C.size (fun g _ _ wx => ∃ i : Nat, i + g = C.size ∧ wx = w.iter C i)
  case atStart => exact ⟨0, by omega, rfl⟩
  case round =>
    obtain ⟨i, hig, rfl⟩ := hrel
    cases gk with
    | zero =>
      obtain rfl : i = C.size := by omega
      have hnx := fun ty => run_next_end (P := Tryz.prog) w C C.size ty (by omega)
      go_wp2
      go_ret
      exact ⟨rfl, (Below.refl _ _).alloc (Nat.le_refl _) _⟩
    | succ g =>
      have hlt : i < C.size := by omega
      have hnx := fun ty => run_next_ascii (P := Tryz.prog) w C i ty hlt (set_get HA.out i hlt)
      obtain ⟨z, hz⟩ : ∃ z : Int, ((C[i]'hlt).toNat : Int) = z := ⟨_, rfl⟩
      have hz2 : z < 128 := by have := set_get HA.out i hlt; omega
      rw [hz] at hnx
      clear hz
      have hne : (z == (65533 : Int)) = false := beq_eq_false_iff_ne.2 (by omega)
      have hne2 : decide (z = (65533 : Int)) = false := decide_eq_false (by omega)
      go_wp2
      go_roundg g
      case measure => omega
      case rel => exact ⟨i + 1, by omega, rfl⟩
set_option maxHeartbeats 2000000 in
set_option maxRecDepth 1000000 in
theorem indexRune_far {C : ByteArray} (hA : AsciiSet C) (r : Int) (w : World) (h0 : 128 ≤ r) (h1 : r ≤ 2147483647) (h2 : r ≠ 65533) :
    Calls Tryz.prog 77 #[.string C, .int .i32 r] w fun e w' => e = .returned (.int .i64 (-1)) ∧ Below w.heap.size w w' := by
  obtain ⟨l, hl, l1, l2, l3⟩ := encode_hi r h0
  obtain ⟨E, hE⟩ : ∃ E, Utf8.encode r = E := ⟨_, rfl⟩
  rw [hE] at hl
  have hsz : E.size = l.length := by rw [← hl]; exact Lib.size_eq E
  have d0 : decide ((0 : Int) ≤ r) = true := decide_eq_true (by omega)
  have d1 : decide (r < (128 : Int)) = false := decide_eq_false (by omega)
  have d2 : (r == (65533 : Int)) = false := beq_eq_false_iff_ne.2 h2
  obtain ⟨b, hb⟩ : ∃ b : UInt8, l.getD (l.length - 1) 0 = b := ⟨_, rfl⟩
  rw [hb] at l3
  have hc0 : (l.length : Int) - 1 = ((l.length - 1 : Nat) : Int) := by omega
  have hix : ∀ w, (Instr.index 9 (.string E) (.int .i64 ((l.length - 1 : Nat) : Int))).run Tryz.prog w = .ok (.int .u8 (b.toNat : Int)) w := by
    intro w
    have hlt : l.length - 1 < E.size := by omega
    have hget : E[l.length - 1] = b := by
      have h := Lib.data_getElem? E (l.length - 1) hlt
      rw [hl] at h
      rw [← hb, List.getD_eq_getElem?_getD, h]; rfl
    rw [run_index_string w 9 E .i64 _ Tryz.underlying9]
    have hw1 : (0 : Int) ≤ ((l.length - 1 : Nat) : Int) := by omega
    simp [hw1, hlt, hget]
  have hsx : l.length - 1 < C.size → ∃ c : Int, c < 128 ∧ ∀ w, (Instr.index 9 (.string C) (.int .i64 ((l.length - 1 : Nat) : Int))).run Tryz.prog w = .ok (.int .u8 c) w := by
    generalize l.length - 1 = n
    intro h
    refine ⟨((C[n]'h).toNat : Int), by have := set_get hA n h; omega, fun w => ?_⟩
    rw [run_index_string w 9 C .i64 _ Tryz.underlying9]
    have hw1 : (0 : Int) ≤ (n : Int) := by omega
    simp [hw1, h]
  have HA : Aside (AsciiSet C) := hA
  clear hA
  have hcv : ∀ w, (convert 21 9 (.int .i32 r)).run Tryz.prog w = .ok (.string E) w := by
    intro w; rw [run_convert_int_string w _ _ .i32 r (by kernel_rfl) Tryz.underlying9, hE]
  cases hv : Lib.validRune r with
  | false =>
    go_enter Tryz.func77, Tryz.ntmps77
    go_wp2_with (at_builtin; refine stopAt ?_)
    refine (Tryz.utf8_ValidRune _ _).mono ?_
    rintro e w' ⟨rfl, rfl⟩
    rw [hv]
    go_wp2
    go_ret
    exact ⟨rfl, Below.refl _ _⟩
  | true =>
    go_enter Tryz.func77, Tryz.ntmps77
    go_wp2_with (at_builtin; refine stopAt ?_)
    refine (Tryz.utf8_ValidRune _ _).mono ?_
    rintro e w' ⟨rfl, rfl⟩
    rw [hv]
    go_wp2
    apply wp_scope_straight
    go_wp2
    obtain ⟨n, hn⟩ : ∃ n, l.length - 1 = n := ⟨_, rfl⟩
    rw [hn] at hix hsx
    rw [hn]
    have hn4 : n < 4 := by omega
    clear hl hsz hcv hc0 d0 d1 d2 hE hb
    go_loopw [9] (fun i wr => i = .int .i64 (n : Int) ∧ wr = w') (fun _ _ => 0)
    case atStart => exact ⟨rfl, rfl⟩
    case round =>
      obtain ⟨rfl, rfl⟩ := hrel
      by_cases h3 : n < C.size
      · have d3 : decide ((n : Int) < (C.size : Int)) = true := decide_eq_true (by omega)
        obtain ⟨c, hcl, hcx⟩ := hsx h3
        have hne : (c != (b.toNat : Int)) = true := by simp; omega
        have hib := ibS HA.out n b l3
        have hw1 : IntKind.i64.wrap ((n : Int) + 1) = (n : Int) + 1 := IntWalk.i64_in _ (by omega)
        have hn0 : (0 : Int) ≤ (n : Int) + 1 := by omega
        have hn1 : ((n : Int) + 1).toNat = n + 1 := by omega
        have hn2 : (n : Int) + 1 ≤ (C.size : Int) := by omega
        have hsl : ∀ w, (Instr.slice 9 (.string C) (some (.int .i64 ((n : Int) + 1))) none none).run Tryz.prog w = .ok (.string (C.extract (n + 1) C.size)) w := by
          intro w; rw [run_slice_string_l w _ _ Tryz.underlying9 .i64 _ hn0 hn2, hn1]
        go_wp2
        apply wp_scope_straight
        go_wp2
        go_quiet (fail)
        go_wp2
        go_quiet (exact (Tryz.strings_IndexByte _ _ _).mono fun e w' ⟨h1, h2⟩ => ⟨h1, _, h2⟩)
        go_wp2
        repeat (first | rw [Exit.noGoto_ret] | rw [show ∀ (k : Nat) (Q : Exit → Act → World → Prop), Exit.inBlock k Q .ret = Q .ret from fun _ _ => rfl])
        simp +zetaDelta only [Exit.noGoto_ret, Exit.inBlock, Exit.then]
        go_ret
        exact ⟨rfl, belowN (Below.refl _ _) _⟩
      · have d3 : decide ((n : Int) < (C.size : Int)) = false := decide_eq_false (by omega)
        go_wp2
        simp only [Exit.noGoto_ret]
        go_ret
        exact ⟨rfl, Below.refl _ _⟩
theorem indexRune_hi {C : ByteArray} (hA : AsciiSet C) (r : Int) (w : World) (h0 : 128 ≤ r) (h1 : r ≤ 2147483647) :
    Calls Tryz.prog 77 #[.string C, .int .i32 r] w fun e w' => e = .returned (.int .i64 (-1)) ∧ Below w.heap.size w w' := by
  by_cases h2 : r = 65533
  · subst h2; exact indexRune_err hA w
  · exact indexRune_far hA r w h0 h1 h2
theorem decode_span (s : ByteArray) (pos : Nat) (h : pos < s.size) (ha : 128 ≤ (s[pos]'h).toNat) : ∀ k, k < (Utf8.decode s pos).2 → pos + k < s.size ∧ 128 ≤ (s.get! (pos + k)).toNat := by
  have h0 : pos + 0 < s.size ∧ 128 ≤ (s.get! (pos + 0)).toNat := ⟨h, by rw [get_at s pos h]; exact ha⟩
  have hc : ∀ k, (decide (pos + k < s.size) && (s.get! (pos + k)).toNat / 64 == 2) = true → pos + k < s.size ∧ 128 ≤ (s.get! (pos + k)).toNat := by
    intro k hk
    simp only [Bool.and_eq_true, decide_eq_true_eq, beq_iff_eq] at hk
    exact ⟨hk.1, by omega⟩
  have hn : ¬ (s[pos]'h).toNat < 128 := by omega
  have key : ∀ n, n = (Utf8.decode s pos).2 → ∀ k, k < n → pos + k < s.size ∧ 128 ≤ (s.get! (pos + k)).toNat := by
    intro n
    simp only [Utf8.decode, get_at s pos h, hn, if_false]
    repeat' split
    all_goals (
      rintro rfl k hk
      simp only [Bool.and_eq_true] at *
      match k, hk with
      | 0, _ => exact h0
      | 1, _ => first | omega | exact hc 1 (by simp_all)
      | 2, _ => first | omega | exact hc 2 (by simp_all)
      | 3, _ => first | omega | exact hc 3 (by simp_all)
      | k + 4, _ => omega)
  exact key _ rfl
theorem getB (s : ByteArray) (j : Nat) (h : j < s.size) : s.data.toList[j]? = some (s.get! j) := by
  rw [Lib.data_getElem? s j h]
  congr 1
  have := get_at s j h
  rw [Nat.add_zero] at this
  exact this.symm
theorem run_next_at (wx : World) (k : Nat) (s : ByteArray) (pos : Nat) (ty : TypeId) (hk : wx.heap[k]? = some (.stringIter s pos)) (h : pos < s.size) :
    (Instr.next (.pointer (some ⟨k, 0, none⟩)) true ty).run Tryz.prog wx =
      .ok (.tuple #[.bool true, .int .i64 pos, .int .i32 (Utf8.decode s pos).1]) { wx with heap := wx.heap.setIfInBounds k (.stringIter s (pos + (Utf8.decode s pos).2)) } := by
  simp only [Instr.next, getObj, setObj, Sem.run_bind, Sem.run, hk, Result.andThen, h, if_true]
  simp [goInt]
theorem run_next_stop (wx : World) (k : Nat) (s : ByteArray) (pos : Nat) (ty : TypeId) (hk : wx.heap[k]? = some (.stringIter s pos)) (h : ¬ pos < s.size) :
    (Instr.next (.pointer (some ⟨k, 0, none⟩)) true ty).run Tryz.prog wx = .ok (.tuple #[.bool false]) wx := by
  simp [Instr.next, getObj, Sem.run, hk, h]
theorem below_iter {w wx : World} {k : Nat} {o : Obj} (h : Below w.heap.size w wx) (hk : w.heap.size ≤ k) : Below w.heap.size w { wx with heap := wx.heap.setIfInBounds k o } :=
  ⟨h.os, h.tape, h.output, by simpa using h.size, fun j hj => by rw [← h.block j hj]; simp [Array.getElem?_setIfInBounds, show k ≠ j by omega]⟩
set_option maxHeartbeats 8000000 in
set_option maxRecDepth 1000000 in
theorem indexAny_short {C : ByteArray} (hA : AsciiSet C) (s : ByteArray) (w : World) (h8 : s.size ≤ 8) :
    Calls Tryz.prog 63 #[.string s, .string C] w fun e w' => e = .returned (.int .i64 (Lib.indexAny s.data.toList C.data.toList)) ∧ Below w.heap.size w w' := by
  have htwo := hA.two
  have hemp : C.toList.isEmpty = false := by
    rw [Lib.toList_data]
    cases h : C.data.toList with
    | nil => have := Lib.size_eq C; rw [h, List.length_nil] at this; omega
    | cons => rfl
  have hn1 : ((C.size : Int) == 1) = false := by
    rw [beq_eq_false_iff_ne]
    intro h
    have h : (C.size : Int) = 1 := h
    omega
  have HA : Aside (AsciiSet C) := hA
  clear hA htwo
  have h8z : decide ((8 : Int) < (s.size : Int)) = false := decide_eq_false (by omega)
  go_enter Tryz.func63, Tryz.ntmps63
  go_wp2_with (at_builtin; refine stopAt ?_)
  refine (Tryz.strings_shouldUseASCIISet _ _).mono ?_
  rintro e w' ⟨rfl, rfl⟩
  rw [h8z]
  go_wp2
  have hlen : s.data.toList.length = s.size := (Lib.size_eq s).symm
  go_loopg [9, 10] s.size (fun g _ _ wx => ∃ p : Nat, p + g = s.size ∧ Below w'.heap.size w' wx ∧ wx.heap[w'.heap.size]? = some (.stringIter s p) ∧ Lib.NoAny s.data.toList C.data.toList p)
  case atStart => exact ⟨0, by omega, (Below.refl _ _).alloc (Nat.le_refl _) _, World.iter_heap _ _ _, Lib.NoAny.zero _ _⟩
  case round =>
    obtain ⟨p, hps, hbel, hit, hno⟩ := hrel
    have HN : Aside (Lib.NoAny s.data.toList C.data.toList p) := hno
    have HB : Aside (Below w'.heap.size w' wr) := hbel
    clear hno hbel
    have hlb : w'.heap.size < wr.heap.size := (Array.getElem?_eq_some_iff.1 hit).1
    by_cases hlt : p < s.size
    · have hnx := fun ty => run_next_at wr w'.heap.size s p ty hit hlt
      obtain ⟨x, hx⟩ : ∃ x : UInt8, s[p]'hlt = x := ⟨_, rfl⟩
      have hxl : s.data.toList[p]? = some x := by rw [← hx]; exact Lib.data_getElem? s p hlt
      by_cases hx128 : x.toNat < 128
      · have hd := decode_ascii s p hlt (by rw [hx]; exact hx128)
        rw [hx] at hd
        rw [hd] at hnx
        obtain ⟨wn, hwn⟩ : ∃ wn : World, { wr with heap := wr.heap.setIfInBounds w'.heap.size (.stringIter s (p + 1)) } = wn := ⟨_, rfl⟩
        have Hn : Aside (Below w'.heap.size w' wn ∧ wn.heap[w'.heap.size]? = some (.stringIter s (p + 1))) := by
          rw [← hwn]; exact ⟨below_iter HB.out (Nat.le_refl _), by simp [hlb]⟩
        simp only [hwn] at hnx
        have hcon := Lib.contains_iff_indexByte C.data.toList x
        have hback : ((x.toNat : Int)).toNat.toUInt8 = x := by simp
        have Hx : Aside (s.data.toList[p]? = some x) := hxl
        clear hxl hx hd
        cases hin : C.data.toList.contains x with
        | false =>
          rw [hin] at hcon
          have hlt0 : decide ((0 : Int) ≤ Lib.indexByte C.data.toList x) = false := hcon.symm
          clear hcon
          go_wp2_with (at_builtin; refine stopAt ?_)
          refine (Tryz.strings_IndexRune_ascii _ _ _ (by omega) (by omega)).mono ?_
          rintro e w3 ⟨rfl, rfl⟩
          rw [hback]
          go_wp2
          obtain ⟨g, rfl⟩ : ∃ g, gk = g + 1 := ⟨gk - 1, by omega⟩
          go_roundg g
          case measure => omega
          case rel => exact ⟨p + 1, by omega, Hn.out.1, Hn.out.2, HN.out.succ Hx.out hin⟩
        | true =>
          rw [hin] at hcon
          have hlt0 : decide ((0 : Int) ≤ Lib.indexByte C.data.toList x) = true := hcon.symm
          clear hcon
          go_wp2_with (at_builtin; refine stopAt ?_)
          refine (Tryz.strings_IndexRune_ascii _ _ _ (by omega) (by omega)).mono ?_
          rintro e w3 ⟨rfl, rfl⟩
          rw [hback]
          go_wp2
          go_ret
          exact ⟨by rw [Lib.indexAny_hit HN.out Hx.out hin]; rfl, Hn.out.1⟩
      · have hd := decode_high s p hlt (by rw [hx]; omega)
        have hsp := decode_span s p hlt (by rw [hx]; omega)
        have hle := decode_le s p
        obtain ⟨⟨c, n⟩, hcn⟩ : ∃ cn, Utf8.decode s p = cn := ⟨_, rfl⟩
        rw [hcn] at hnx hd hsp hle
        simp only at hnx hd hsp hle
        obtain ⟨wn, hwn⟩ : ∃ wn : World, { wr with heap := wr.heap.setIfInBounds w'.heap.size (.stringIter s (p + n)) } = wn := ⟨_, rfl⟩
        have Hn : Aside (Below w'.heap.size w' wn ∧ wn.heap[w'.heap.size]? = some (.stringIter s (p + n))) := by
          rw [← hwn]; exact ⟨below_iter HB.out (Nat.le_refl _), by simp [hlb]⟩
        simp only [hwn] at hnx
        have HS : Aside (∀ k, k < n → p + k < s.size ∧ 128 ≤ (s.get! (p + k)).toNat) := hsp
        clear hsp hcn hxl hx
        go_wp2_with (at_builtin; refine stopAt ?_)
        refine (indexRune_hi HA.out (c : Int) _ (by omega) (by omega)).mono ?_
        rintro e w3 ⟨rfl, hb3⟩
        have hp : p + n ≤ s.size := by have := (HS.out (n - 1) (by omega)).1; omega
        have Hn3 : Aside (Below w'.heap.size w' w3 ∧ w3.heap[w'.heap.size]? = some (.stringIter s (p + n))) := by
          obtain ⟨h1, h2⟩ := Hn.out
          have h3 : w'.heap.size < wn.heap.size := (Array.getElem?_eq_some_iff.1 h2).1
          exact ⟨h1.trans ⟨hb3.os, hb3.tape, hb3.output, hb3.size, fun k hk => hb3.block k (by omega)⟩, by rw [hb3.block _ h3]; exact h2⟩
        clear hb3
        go_wp2
        obtain ⟨g, hg⟩ : ∃ g, p + n + g = s.size := ⟨s.size - (p + n), by omega⟩
        go_roundg g
        case measure => omega
        case rel =>
          refine ⟨p + n, by omega, Hn3.out.1, Hn3.out.2, fun j b hj hb => ?_⟩
          rcases Nat.lt_or_ge j p with h | h
          · exact HN.out j b h hb
          · obtain ⟨k, rfl⟩ : ∃ k, j = p + k := ⟨j - p, by omega⟩
            obtain ⟨k1, k2⟩ := HS.out k (by omega)
            rw [getB s _ k1] at hb
            injection hb with hb
            subst hb
            generalize s.get! (p + k) = b at *
            exact set_hi HA.out b k2
    · have hnx := fun ty => run_next_stop wr w'.heap.size s p ty hit hlt
      obtain rfl : p = s.size := by omega
      go_wp2
      go_ret
      exact ⟨by rw [Lib.indexAny_none (by rw [← Lib.size_eq]; exact HN.out)]; rfl, HB.out⟩
end Go.Proofs.YtfabdnpeohpgnaaGreatDoor
namespace Go.Proofs.YtfabdnpeohpgnaaGreatDoor
set_option linter.all false
open Go.RowKit
open Go.Lib (index hasPrefix trimPrefix cut indexAny)
def idxAnyS : Spec := fun xs hp => match xs, hp with
  | [.str s, .str p], [] => some ⟨.int .i64 (indexAny s p), [], asciiB p = true ∧ s.length < 4294967281⟩
  | _, _ => none
theorem idxAny_ok : FnOk Tryz.prog 63 idxAnyS := by
  refine fnok_of_calls fun xs0 hp r hs hp' => ?_
  unfold idxAnyS at hs
  split at hs
  · rename_i s p
    injection hs with hs; subst hs
    obtain ⟨p1, p2⟩ := hp'
    have hA := asciiSet_of p1
    refine ⟨rfl, rfl, fun w S ρ args hS ha => ?_⟩
    obtain ⟨v, vs, rfl, hv, hr⟩ := ha.get _ _ rfl
    obtain ⟨u, us, rfl, hu, hr⟩ := hr.get _ _ rfl
    obtain rfl := hr.none
    rw [hv.str, hu.str]
    have hs0 : (⟨s.toArray⟩ : ByteArray).size = s.length := by rw [Lib.size_eq]
    have hc0 : (⟨p.toArray⟩ : ByteArray).size = p.length := by rw [Lib.size_eq]
    have h2 := hA.two
    have h3 := hA.few
    by_cases h8 : s.length ≤ 8
    · refine (indexAny_short hA ⟨s.toArray⟩ w (by rw [hs0]; exact h8)).mono ?_
      rintro e w' ⟨rfl, hb⟩
      exact ⟨_, rfl, hb, fun _ _ _ => Vl.int' _ _⟩
    · refine (Tryz.strings_IndexAny_long (fun w => by kernel_rfl) ⟨s.toArray⟩ ⟨p.toArray⟩ w (by omega) (by rw [hs0]; omega) (by rw [hs0]; exact p2) (by omega) (fun j b hb => hA.low b (List.mem_of_getElem? hb))).mono ?_
      rintro e w' ⟨rfl, rfl⟩
      exact ⟨_, rfl, ((Below.refl _ _).alloc (Nat.le_refl _) _).alloc (by simp) _, fun _ _ _ => Vl.int' _ _⟩
  · cases hs
end Go.Proofs.YtfabdnpeohpgnaaGreatDoor
namespace Go.Proofs.YtfabdnpeohpgnaaGreatDoor
set_option linter.all false
open Go.RowKit
open Go.Lib (index hasPrefix trimPrefix cut indexAny)
def idxAny3S : Spec := fun xs hp => match xs, hp with
  | [.str s, .str p], [] => some ⟨.int .i64 (indexAny s p), [], p = [0, 10, 13] ∧ s.length < 4294967281⟩
  | _, _ => none
theorem idxAny3_ok : FnOk Tryz.prog 63 idxAny3S := by
  refine idxAny_ok.imp fun xs hp r hs hp' => ?_
  unfold idxAny3S at hs
  split at hs
  · injection hs with hs; subst hs
    obtain ⟨rfl, p2⟩ := hp'
    exact ⟨_, rfl, ⟨by decide, p2⟩, rfl, rfl⟩
  · cases hs
end Go.Proofs.YtfabdnpeohpgnaaGreatDoor
