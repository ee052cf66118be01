import Derived.Test.YtakojeefilpibaaDoorVAMS
import Derived.Test.YtakojeefilpibaaDoorVParse
import Derived.Test.YtakojeefilpibaaDoorVFSplit
import Derived.Test.YtakojeefilpibaaDoorProg
import Derived.Shelf.Strings.Builder1
import Derived.Laws.EntriesVeiled
import Derived.Lib.UnsafeStr
namespace Go.Proofs.YtakojeefilpibaaDoor
set_option linter.all false
open Go.RowKit
open Go.Lib (index hasPrefix trimPrefix cut indexAny)
theorem and15 : ∀ k : Nat, k < 256 → bits BinOp.and IntKind.u8 (k : Int) 15 = ((k % 16 : Nat) : Int) := by decide +kernel
theorem told_B (k : Nat) (h : k < 256) : [AV.int IntKind.u8 126, AV.int IntKind.u8 (at8 [48, 49, 50, 51, 52, 53, 54, 55, 56, 57, 97, 98, 99, 100, 101, 102] (k / 16)), AV.int IntKind.u8 (at8 [48, 49, 50, 51, 52, 53, 54, 55, 56, 57, 97, 98, 99, 100, 101, 102] (k % 16))] = Bs (toldL (UInt8.ofNat k)) := by
  have e : (UInt8.ofNat k).toNat = k := by rw [UInt8.toNat_ofNat']; omega
  unfold toldL
  rw [e]; rfl
def ntoldS : Spec := fun xs hp => match xs, hp with
  | [.int .u8 n], [] => some ⟨.str (toldL (UInt8.ofNat n.toNat)), [], 0 ≤ n ∧ n < 256⟩
  | _, _ => none
theorem ntold_ok : FnOk Tryd.prog 26 ntoldS := by
  refine fn_slim2 Tryd.func26 s_ntold (Φ := phiL []) phi_nil ?_
  intro xs hp r hs hp'
  unfold ntoldS at hs
  split at hs
  · injection hs with hs; subst hs
    rename_i n
    obtain ⟨h1, h2⟩ := hp'
    obtain ⟨k, rfl⟩ : ∃ k : Nat, n = k := ⟨n.toNat, by omega⟩
    refine ⟨len_le (by kernel_rfl), ?_⟩
    have e1 : ((k : Int) / 2 ^ 4).toNat = k / 16 := by omega
    simp only [c_ntold, r_ntold, and15 k (by omega), e1, Int.toNat_natCast, told_B k (by omega), unB_Bs, go_sem, Nat.reduceDiv, Nat.reduceMod, ↓reduceIte, Nat.reduceEqDiff, Nat.reduceBEq, Nat.reduceSub, Nat.reduceLT, Nat.reduceAdd, Nat.reduceLeDiff, reduceCtorEq, Int.reduceEq, Int.reduceNe, Int.reduceLT, Int.reduceLE, Int.reduceToNat]
    (repeat' apply And.intro)
    all_goals first | omega | exact lenOk_3 | rfl | (show lenOk 3; simp only [lenOk_3]) | skip
  · cases hs
def noneS : Spec := fun xs hp => match xs, hp with
  | [.int .u8 n], [] => some ⟨.str (encC (UInt8.ofNat n.toNat)), [], 0 ≤ n ∧ n < 256⟩
  | _, _ => none
theorem one_dec : ∀ k : Nat, k < 256 → encC (UInt8.ofNat k) = if 65 ≤ k ∧ k ≤ 90 then [95, UInt8.ofNat (k + 32)] else if k = 95 then [95, 95] else if k < 32 ∨ 125 < k ∨ 0 ≤ Go.Lib.indexByte [92, 58, 42, 63, 34, 60, 62, 124] k.toUInt8 then toldL (UInt8.ofNat k) else [UInt8.ofNat k] := by decide +kernel
theorem one_B (k : Nat) (h : k < 256) : [AV.int IntKind.u8 (k : Int)] = Bs [UInt8.ofNat k] := by
  have e : (UInt8.ofNat k).toNat = k := by rw [UInt8.toNat_ofNat']; omega
  show _ = [AV.int .u8 ((UInt8.ofNat k).toNat : Int)]
  rw [e]
def phiN1 : Phi := phiL [(31, [], idxByteS), (26, [], ntoldS)]
theorem phiN1_ok : PhiOk Tryd.prog phiN1 := phi_cons idxByte_ok (by kernel_rfl) (phi_cons ntold_ok (by kernel_rfl) phi_nil)
theorem phiN1_1 : phiN1 31 = some ([], idxByteS) := rfl
theorem phiN1_2 : phiN1 26 = some ([], ntoldS) := rfl
theorem none1_ok : FnOk Tryd.prog 23 noneS := by
  refine fn_slim2 Tryd.func23 s_none1 phiN1_ok ?_
  intro xs hp r hs hp'
  unfold noneS at hs
  split at hs
  · injection hs with hs; subst hs
    rename_i n
    obtain ⟨h1, h2⟩ := hp'
    obtain ⟨k, rfl⟩ : ∃ k : Nat, n = k := ⟨n.toNat, by omega⟩
    refine ⟨len_le (by kernel_rfl), ?_⟩
    rw [Int.toNat_natCast]
    have hk : (UInt8.ofNat k).toNat = k := by rw [UInt8.toNat_ofNat']; omega
    have he := one_dec k (by omega)
    have hkk : k < 256 := by omega
    cases g1 : decide (65 ≤ (k : Int)) with
    | false =>
      have h65 := of_decide_eq_false g1
      rw [if_neg (by omega)] at he
      cases g3 : decide ((k : Int) = 95) <;> cases g4 : decide ((k : Int) < 32) <;> cases g5 : decide (125 < (k : Int)) <;> cases g6 : decide (0 ≤ Go.Lib.indexByte [92, 58, 42, 63, 34, 60, 62, 124] k.toUInt8) <;> simp only [c_none1, r_none1, g1, g3, g4, g5, g6, phiN1_1, phiN1_2, idxByteS, ntoldS, Int.toNat_natCast, go_sem, Nat.reduceDiv, Nat.reduceMod, ↓reduceIte, Nat.reduceEqDiff, Nat.reduceBEq, Nat.reduceSub, Nat.reduceLT, Nat.reduceAdd, Nat.reduceLeDiff, reduceCtorEq, Int.reduceEq, Int.reduceNe, Int.reduceLT, Int.reduceLE, Int.reduceToNat] <;> simp only [decide_eq_true_eq, decide_eq_false_iff_not] at g3 g4 g5 g6 <;> (try (rw [he])) <;> clear he <;> (try generalize Go.Lib.indexByte [92, 58, 42, 63, 34, 60, 62, 124] k.toUInt8 = ib at *) <;> (repeat' (first | rw [if_pos (by omega)] | rw [if_neg (by omega)])) <;> (try simp only [one_B k hkk, unB_Bs]) <;> (repeat' apply And.intro) <;> first | exact True.intro | omega | rfl | skip
    | true =>
      have h65 := of_decide_eq_true g1
      cases g2 : decide ((k : Int) ≤ 90) with
      | true =>
        have h90 := of_decide_eq_true g2
        rw [if_pos (by omega)] at he
        have hw : IntKind.u8.wrap ((k : Int) + 32) = ((k + 32 : Nat) : Int) := by rw [IntKind.wrap_u8']; omega
        have eB : [AV.int IntKind.u8 95, AV.int IntKind.u8 ((k + 32 : Nat) : Int)] = Bs [95, UInt8.ofNat (k + 32)] := by
          have e : (UInt8.ofNat (k + 32)).toNat = k + 32 := by rw [UInt8.toNat_ofNat']; omega
          show _ = [AV.int .u8 95, AV.int .u8 ((UInt8.ofNat (k + 32)).toNat : Int)]
          rw [e]
        simp only [c_none1, r_none1, g1, g2, hw, eB, unB_Bs, he, phiN1_1, phiN1_2, idxByteS, ntoldS, Int.toNat_natCast, go_sem, Nat.reduceDiv, Nat.reduceMod, ↓reduceIte, Nat.reduceEqDiff, Nat.reduceBEq, Nat.reduceSub, Nat.reduceLT, Nat.reduceAdd, Nat.reduceLeDiff, reduceCtorEq, Int.reduceEq, Int.reduceNe, Int.reduceLT, Int.reduceLE, Int.reduceToNat]
      | false =>
        have h90 := of_decide_eq_false g2
        rw [if_neg (by omega)] at he
        cases g3 : decide ((k : Int) = 95) <;> cases g4 : decide ((k : Int) < 32) <;> cases g5 : decide (125 < (k : Int)) <;> cases g6 : decide (0 ≤ Go.Lib.indexByte [92, 58, 42, 63, 34, 60, 62, 124] k.toUInt8) <;> simp only [c_none1, r_none1, g1, g2, g3, g4, g5, g6, phiN1_1, phiN1_2, idxByteS, ntoldS, Int.toNat_natCast, go_sem, Nat.reduceDiv, Nat.reduceMod, ↓reduceIte, Nat.reduceEqDiff, Nat.reduceBEq, Nat.reduceSub, Nat.reduceLT, Nat.reduceAdd, Nat.reduceLeDiff, reduceCtorEq, Int.reduceEq, Int.reduceNe, Int.reduceLT, Int.reduceLE, Int.reduceToNat] <;> simp only [decide_eq_true_eq, decide_eq_false_iff_not] at g3 g4 g5 g6 <;> (try (rw [he])) <;> clear he <;> (try generalize Go.Lib.indexByte [92, 58, 42, 63, 34, 60, 62, 124] k.toUInt8 = ib at *) <;> (repeat' (first | rw [if_pos (by omega)] | rw [if_neg (by omega)])) <;> (try simp only [one_B k hkk, unB_Bs]) <;> (repeat' apply And.intro) <;> first | exact True.intro | omega | rfl | skip
  · cases hs
def fiS (s : List UInt8) : Nat → List (List UInt8) → Int
  | _, [] => -1
  | k, x :: r => if x = s then k else fiS s (k + 1) r
theorem fiS_nn (s : List UInt8) : ∀ (k : Nat) (l : List (List UInt8)), decide (0 ≤ fiS s k l) = l.contains s
  | _, [] => rfl
  | k, x :: r => by
    unfold fiS
    by_cases h : x = s
    · subst h; rw [if_pos rfl]; simp
    · rw [if_neg h, fiS_nn s (k + 1) r, List.contains_cons]; simp [Ne.symm h]
theorem fiS_step {s : List UInt8} {l : List (List UInt8)} {i : Nat} (hi : i < l.length) (h : fiS s 0 l = fiS s i (l.drop i)) : fiS s 0 l = if l[i] = s then (i : Int) else fiS s (i + 1) (l.drop (i + 1)) := by
  rw [h, List.drop_eq_getElem_cons hi]; rfl
def sidxS : Spec := fun xs hp => match xs, hp with
  | [.sl k ps, .str s], [] => some ⟨.int .i64 (fiS s 0 (ps.map unS)), [], ps = (ps.map unS).map AV.str ∧ (k = 1 ∨ ps = []) ∧ ps.length ≤ 1000000⟩
  | _, _ => none
set_option maxHeartbeats 1000000 in
theorem sidx_ok : FnOk Tryd.prog 53 sidxS := by
  refine fn_slim2 Tryd.func53 s_sidx (Φ := phiL []) phi_nil ?_
  intro xs hp r hs hp'
  unfold sidxS at hs
  split at hs
  · injection hs with hs; subst hs
    rename_i kk ps s
    obtain ⟨q1, q2, q3⟩ := hp'
    generalize ps.map unS = l at *
    subst q1
    rw [List.length_map] at q3
    refine ⟨len_le (by kernel_rfl), ?_⟩
    simp only [c_sidx, List.length_map, go_sem, Nat.reduceDiv, Nat.reduceMod, ↓reduceIte, Nat.reduceEqDiff, Nat.reduceBEq, Nat.reduceSub, Nat.reduceLT, Nat.reduceAdd, Nat.reduceLeDiff, reduceCtorEq, Int.reduceEq, Int.reduceNe, Int.reduceLT, Int.reduceLE, Int.reduceToNat]
    refine loop2P [] [0, 1, 7, 8] [] (fun i : Nat => ⟨[(0, .sl kk (l.map AV.str)), (1, .str s), (7, .int .i64 (l.length : Int)), (8, .int .i64 (i : Int))], []⟩)
      (fun i => i ≤ l.length ∧ fiS s 0 l = fiS s i (l.drop i)) (fun i => l.length - i) 0 (by rfl) ⟨Nat.zero_le _, rfl⟩ ⟨rfl, by rfl⟩ (fun i hi R hR => ?_)
    obtain ⟨i1, i2⟩ := hi
    by_cases hil : i < l.length
    · have c1 : decide ((i : Int) < (l.length : Int)) = true := decide_eq_true (by omega)
      have hk : kk = 1 := q2.resolve_right (by intro h; have := congrArg List.length h; simp at this; rw [this] at hil; simp at hil)
      subst hk
      have hget := getD_map AV.str l [] (.str []) hil
      have hga : l.getD i [] = l[i] := by simp [List.getD_eq_getElem?_getD, List.getElem?_eq_getElem hil]
      have hst := fiS_step hil i2
      by_cases h : s = l[i]
      · have d1 : decide (s = l[i]) = true := decide_eq_true h
        rw [if_pos h.symm] at hst
        simp only [b_sidx_0, r_sidx, c1, d1, hst, hget, hga, Int.toNat_natCast, List.length_map, go_sem, Nat.reduceDiv, Nat.reduceMod, ↓reduceIte, Nat.reduceEqDiff, Nat.reduceBEq, Nat.reduceSub, Nat.reduceLT, Nat.reduceAdd, Nat.reduceLeDiff, reduceCtorEq, Int.reduceEq, Int.reduceNe, Int.reduceLT, Int.reduceLE, Int.reduceToNat]
        repeat' apply And.intro
        all_goals first | omega | rfl | trivial
      · have d1 : decide (s = l[i]) = false := decide_eq_false h
        rw [if_neg (Ne.symm h)] at hst
        simp only [b_sidx_0, r_sidx, c1, d1, hget, hga, Int.toNat_natCast, List.length_map, go_sem, Nat.reduceDiv, Nat.reduceMod, ↓reduceIte, Nat.reduceEqDiff, Nat.reduceBEq, Nat.reduceSub, Nat.reduceLT, Nat.reduceAdd, Nat.reduceLeDiff, reduceCtorEq, Int.reduceEq, Int.reduceNe, Int.reduceLT, Int.reduceLE, Int.reduceToNat]
        refine ⟨⟨by omega, by omega⟩, ⟨by omega, by omega⟩, hR _ (i + 1) ⟨hil, hst⟩ (by omega) rfl⟩
    · have c1 : decide ((i : Int) < (l.length : Int)) = false := decide_eq_false (by omega)
      rw [List.drop_eq_nil_of_le (by omega)] at i2
      have e : fiS s 0 l = -1 := i2
      simp only [b_sidx_0, t_sidx_0, r_sidx, c1, e, go_sem, Nat.reduceDiv, Nat.reduceMod, ↓reduceIte, Nat.reduceEqDiff, Nat.reduceBEq, Nat.reduceSub, Nat.reduceLT, Nat.reduceAdd, Nat.reduceLeDiff, reduceCtorEq, Int.reduceEq, Int.reduceNe, Int.reduceLT, Int.reduceLE, Int.reduceToNat]
  · cases hs
def sctnS : Spec := fun xs hp => match xs, hp with
  | [.sl k ps, .str s], [] => some ⟨.bool ((ps.map unS).contains s), [], ps = (ps.map unS).map AV.str ∧ (k = 1 ∨ ps = []) ∧ ps.length ≤ 1000000⟩
  | _, _ => none
theorem sctn_ok : FnOk Tryd.prog 40 sctnS := by
  refine fn_slim2 Tryd.func40 s_sctn (Φ := phiL [(53, [], sidxS)]) (phi_cons sidx_ok (by kernel_rfl) phi_nil) ?_
  intro xs hp r hs hp'
  unfold sctnS at hs
  split at hs
  · injection hs with hs; subst hs
    rename_i kk ps s
    refine ⟨len_le (by kernel_rfl), ?_⟩
    simp only [c_sctn, r_sctn, sidxS, fiS_nn, go_sem, Nat.reduceDiv, Nat.reduceMod, ↓reduceIte, Nat.reduceEqDiff, Nat.reduceBEq, Nat.reduceSub, Nat.reduceLT, Nat.reduceAdd, Nat.reduceLeDiff, reduceCtorEq, Int.reduceEq, Int.reduceNe, Int.reduceLT, Int.reduceLE, Int.reduceToNat]
    exact hp'
  · cases hs
theorem kept_eq (s : List UInt8) : (s == unS (AV.str [97, 117, 120]) || (s == unS (AV.str [99, 111, 110]) || (s == unS (AV.str [112, 114, 110]) || s == unS (AV.str [110, 117, 108])))) = keptW.contains s := by
  unfold keptW
  simp only [List.contains_cons, List.contains_nil, Bool.or_false]; rfl
def nkeptS : Spec := fun xs hp => match xs, hp with
  | [.str s], [] => some ⟨.bool (keptL s), [], s.length ≤ 9223372036854775807⟩
  | _, _ => none
set_option maxHeartbeats 2000000 in
theorem nkept_ok : FnOk Tryd.prog 27 nkeptS := by
  refine fn_slim2 Tryd.func27 s_nkept (Φ := phiL [(40, [], sctnS)]) (phi_cons sctn_ok (by kernel_rfl) phi_nil) ?_
  intro xs hp r hs hp'
  unfold nkeptS at hs
  split at hs
  · injection hs with hs; subst hs
    rename_i s
    have hp' : s.length ≤ 9223372036854775807 := hp'
    refine ⟨len_le (by kernel_rfl), ?_⟩
    have e : keptL s = ((decide ((s.length : Int) = 4) && (decide (s.take 3 = [99, 111, 109]) || decide (s.take 3 = [108, 112, 116])) && decide (49 ≤ at8 s 3) && decide (at8 s 3 ≤ 57)) || keptW.contains s) := by
      have a1 : decide ((s.length : Int) = 4) = decide (s.length = 4) := decide_eq_decide.2 (by omega)
      have a2 : decide (49 ≤ at8 s 3) = decide (49 ≤ (s.getD 3 0).toNat) := decide_eq_decide.2 (by unfold at8; omega)
      have a3 : decide (at8 s 3 ≤ 57) = decide ((s.getD 3 0).toNat ≤ 57) := decide_eq_decide.2 (by unfold at8; omega)
      rw [a1, a2, a3]; rfl
    rw [e]
    clear e
    cases g1 : decide ((s.length : Int) = 4) with
    | false =>
      simp only [c_nkept, r_nkept, sctnS, g1, Bool.and_true, Bool.true_and, Bool.and_false, Bool.false_and, Bool.or_true, Bool.true_or, Bool.or_false, Bool.false_or, go_sem, Nat.reduceDiv, Nat.reduceMod, ↓reduceIte, Nat.reduceEqDiff, Nat.reduceBEq, Nat.reduceSub, Nat.reduceLT, Nat.reduceAdd, Nat.reduceLeDiff, reduceCtorEq, Int.reduceEq, Int.reduceNe, Int.reduceLT, Int.reduceLE, Int.reduceToNat]
      (repeat' apply And.intro); all_goals first | exact True.intro | omega | rfl | exact .inl rfl | exact .inl trivial | exact congrArg (fun b => some (AV.bool b)) (kept_eq s) | skip
    | true =>
      have g1' := of_decide_eq_true g1
      cases g2 : decide (s.take 3 = [99, 111, 109]) with
      | true =>
        cases g4 : decide (49 ≤ at8 s 3) with
        | false =>
          simp only [c_nkept, r_nkept, sctnS, g1, g2, g4, Bool.and_true, Bool.true_and, Bool.and_false, Bool.false_and, Bool.or_true, Bool.true_or, Bool.or_false, Bool.false_or, go_sem, Nat.reduceDiv, Nat.reduceMod, ↓reduceIte, Nat.reduceEqDiff, Nat.reduceBEq, Nat.reduceSub, Nat.reduceLT, Nat.reduceAdd, Nat.reduceLeDiff, reduceCtorEq, Int.reduceEq, Int.reduceNe, Int.reduceLT, Int.reduceLE, Int.reduceToNat]
          (repeat' apply And.intro); all_goals first | exact True.intro | omega | rfl | exact .inl rfl | exact .inl trivial | exact congrArg (fun b => some (AV.bool b)) (kept_eq s) | skip
        | true =>
          cases g5 : decide (at8 s 3 ≤ 57) with
          | false =>
            simp only [c_nkept, r_nkept, sctnS, g1, g2, g4, g5, Bool.and_true, Bool.true_and, Bool.and_false, Bool.false_and, Bool.or_true, Bool.true_or, Bool.or_false, Bool.false_or, go_sem, Nat.reduceDiv, Nat.reduceMod, ↓reduceIte, Nat.reduceEqDiff, Nat.reduceBEq, Nat.reduceSub, Nat.reduceLT, Nat.reduceAdd, Nat.reduceLeDiff, reduceCtorEq, Int.reduceEq, Int.reduceNe, Int.reduceLT, Int.reduceLE, Int.reduceToNat]
            (repeat' apply And.intro); all_goals first | exact True.intro | omega | rfl | exact .inl rfl | exact .inl trivial | exact congrArg (fun b => some (AV.bool b)) (kept_eq s) | skip
          | true =>
            simp only [c_nkept, r_nkept, sctnS, g1, g2, g4, g5, Bool.and_true, Bool.true_and, Bool.and_false, Bool.false_and, Bool.or_true, Bool.true_or, Bool.or_false, Bool.false_or, go_sem, Nat.reduceDiv, Nat.reduceMod, ↓reduceIte, Nat.reduceEqDiff, Nat.reduceBEq, Nat.reduceSub, Nat.reduceLT, Nat.reduceAdd, Nat.reduceLeDiff, reduceCtorEq, Int.reduceEq, Int.reduceNe, Int.reduceLT, Int.reduceLE, Int.reduceToNat]
            (repeat' apply And.intro); all_goals first | exact True.intro | omega | rfl | exact .inl rfl | exact .inl trivial | exact congrArg (fun b => some (AV.bool b)) (kept_eq s) | skip
      | false =>
        cases g3 : decide (s.take 3 = [108, 112, 116]) with
        | false =>
          simp only [c_nkept, r_nkept, sctnS, g1, g2, g3, Bool.and_true, Bool.true_and, Bool.and_false, Bool.false_and, Bool.or_true, Bool.true_or, Bool.or_false, Bool.false_or, go_sem, Nat.reduceDiv, Nat.reduceMod, ↓reduceIte, Nat.reduceEqDiff, Nat.reduceBEq, Nat.reduceSub, Nat.reduceLT, Nat.reduceAdd, Nat.reduceLeDiff, reduceCtorEq, Int.reduceEq, Int.reduceNe, Int.reduceLT, Int.reduceLE, Int.reduceToNat]
          (repeat' apply And.intro); all_goals first | exact True.intro | omega | rfl | exact .inl rfl | exact .inl trivial | exact congrArg (fun b => some (AV.bool b)) (kept_eq s) | skip
        | true =>
          cases g4 : decide (49 ≤ at8 s 3) with
          | false =>
            simp only [c_nkept, r_nkept, sctnS, g1, g2, g3, g4, Bool.and_true, Bool.true_and, Bool.and_false, Bool.false_and, Bool.or_true, Bool.true_or, Bool.or_false, Bool.false_or, go_sem, Nat.reduceDiv, Nat.reduceMod, ↓reduceIte, Nat.reduceEqDiff, Nat.reduceBEq, Nat.reduceSub, Nat.reduceLT, Nat.reduceAdd, Nat.reduceLeDiff, reduceCtorEq, Int.reduceEq, Int.reduceNe, Int.reduceLT, Int.reduceLE, Int.reduceToNat]
            (repeat' apply And.intro); all_goals first | exact True.intro | omega | rfl | exact .inl rfl | exact .inl trivial | exact congrArg (fun b => some (AV.bool b)) (kept_eq s) | skip
          | true =>
            cases g5 : decide (at8 s 3 ≤ 57) with
            | false =>
              simp only [c_nkept, r_nkept, sctnS, g1, g2, g3, g4, g5, Bool.and_true, Bool.true_and, Bool.and_false, Bool.false_and, Bool.or_true, Bool.true_or, Bool.or_false, Bool.false_or, go_sem, Nat.reduceDiv, Nat.reduceMod, ↓reduceIte, Nat.reduceEqDiff, Nat.reduceBEq, Nat.reduceSub, Nat.reduceLT, Nat.reduceAdd, Nat.reduceLeDiff, reduceCtorEq, Int.reduceEq, Int.reduceNe, Int.reduceLT, Int.reduceLE, Int.reduceToNat]
              (repeat' apply And.intro); all_goals first | exact True.intro | omega | rfl | exact .inl rfl | exact .inl trivial | exact congrArg (fun b => some (AV.bool b)) (kept_eq s) | skip
            | true =>
              simp only [c_nkept, r_nkept, sctnS, g1, g2, g3, g4, g5, Bool.and_true, Bool.true_and, Bool.and_false, Bool.false_and, Bool.or_true, Bool.true_or, Bool.or_false, Bool.false_or, go_sem, Nat.reduceDiv, Nat.reduceMod, ↓reduceIte, Nat.reduceEqDiff, Nat.reduceBEq, Nat.reduceSub, Nat.reduceLT, Nat.reduceAdd, Nat.reduceLeDiff, reduceCtorEq, Int.reduceEq, Int.reduceNe, Int.reduceLT, Int.reduceLE, Int.reduceToNat]
              (repeat' apply And.intro); all_goals first | exact True.intro | omega | rfl | exact .inl rfl | exact .inl trivial | exact congrArg (fun b => some (AV.bool b)) (kept_eq s) | skip
  · cases hs
end Go.Proofs.YtakojeefilpibaaDoor
namespace Go.Proofs.YtakojeefilpibaaDoor
set_option linter.all false
open Go.RowKit
set_option maxHeartbeats 1000000 in
set_option maxRecDepth 100000 in
theorem copyCheck_used (b : Nat) (w : World) (h0 : w.cell? ⟨b, 0, none⟩ = some (.pointer (some ⟨b, 0, none⟩))) :
    Calls Tryd.prog 38 #[.pointer (some ⟨b, 0, none⟩)] w fun e w' => e = .returned (.tuple #[]) ∧ w' = w := by
  obtain ⟨j, hj, _⟩ := Option.map_eq_some_iff.1 (show (Tryd.prog.info? 41).map (·.size) = some 2 by kernel_rfl)
  go_enter Tryd.func38, Tryd.ntmps38
  go_wp2
  rw [Lib.run_neq_ptr_same w _ Tryd.underlying38 hj]
  go_wp2
  go_end0
  exact ⟨rfl, rfl⟩
set_option maxHeartbeats 1000000 in
set_option maxRecDepth 100000 in
theorem copyCheck_fresh (b : Nat) (w : World) (h0 : w.cell? ⟨b, 0, none⟩ = some (.pointer none)) (hsh : w.shape? b = some (41, 2)) (hfz : w.frozen? ⟨b, 0, none⟩ = false) :
    Calls Tryd.prog 38 #[.pointer (some ⟨b, 0, none⟩)] w fun e w' => e = .returned (.tuple #[]) ∧ w' = w.setCell ⟨b, 0, none⟩ (.pointer (some ⟨b, 0, none⟩)) := by
  obtain ⟨j, hj, hjs⟩ := Option.map_eq_some_iff.1 (show (Tryd.prog.info? 41).map (·.size) = some 2 by kernel_rfl)
  go_enter Tryd.func38, Tryd.ntmps38
  go_wp2
  rw [Lib.run_to_unsafe w ⟨b, 0, none⟩ Tryd.underlying38 Tryd.underlying68 hj (by rw [hjs]; decide) hsh (Nat.zero_lt_succ 1)]
  simp only [Result.andThen]
  rw [Oper.upon_value]
  go_wp2
  rw [run_callFunc_extern Tryd.func52 (by kernel_rfl) (by kernel_rfl) (by kernel_rfl) (e := Extern.AbiNoEscape.same) (by kernel_rfl)]
  rw [Lib.run_noEscape]
  simp only [Result.andThen]
  rw [Oper.upon_value]
  go_wp2
  rw [Lib.run_from_unsafe w ⟨b, 0, none⟩ Tryd.underlying68 Tryd.underlying38 hj hsh (show liesAt Tryd.prog Tryd.prog.depth 41 (2 / Tryd.prog.cellsOf 41) 0 41 1 = true by kernel_rfl)]
  simp only [Result.andThen]
  rw [Oper.upon_value]
  go_wp2
  go_end0
  exact ⟨rfl, rfl⟩
end Go.Proofs.YtakojeefilpibaaDoor
namespace Go.Proofs.YtakojeefilpibaaDoor
set_option linter.all false
open Go.RowKit
def selfX : AV → Bool
  | .con (.pointer none) => true
  | .ref 0 0 0 => true
  | _ => false
theorem selfX_or {X : AV} (h : selfX X = true) : X = .con (.pointer none) ∨ X = .ref 0 0 0 := by
  unfold selfX at h
  split at h
  · exact .inl rfl
  · exact .inr rfl
  · cases h
def copyCheckS : Spec := fun xs hp => match xs, hp with
  | [.ref 0 0 0], .cells T [(1, X), (1, Y)] :: rest => if selfX X = true then some ⟨.tup [], .cells T [(1, .ref 0 0 0), (1, Y)] :: rest, T = 41⟩ else none
  | _, _ => none
theorem css_two {w : World} {S : Nat → Prop} {ρ : Rho} {X Y : AV} {us : List Value} (h : Css w S ρ [(1, X), (1, Y)] us) : ∃ x y, us = [x, y] ∧ Cs w S ρ X [x] ∧ Cs w S ρ Y [y] := by
  obtain ⟨u1, u2, rfl, h1, h2, u3, u4, rfl, h3, h4, rfl⟩ := h
  match u1, h1, u3, h3 with
  | [x], _, [y], _ => exact ⟨x, y, rfl, h2, h4⟩
theorem copyCheckA_ok : FnOk Tryd.prog 38 copyCheckS := by
  intro xs0 hp r hs hp' w S ρ args H ha
  unfold copyCheckS at hs
  split at hs
  · rename_i T X Y rest
    split at hs
    · rename_i hX
      injection hs with hs; subst hs
      have hT : T = 41 := hp'
      subst hT
      obtain ⟨v, vs, rfl, hv, hr⟩ := ha.get _ _ rfl
      obtain rfl := hr.none
      obtain ⟨g, L, h1, h2, rfl⟩ := hv.ref
      obtain ⟨g', us, k1, k2, k3, k4⟩ := H.ob 0 _ rfl
      rw [h1] at k1; injection k1 with k1; subst k1
      injection h2 with h2; injection h2 with h2; subst h2
      obtain ⟨x, y, rfl, c1, c2⟩ := css_two k3
      have hlt : g' < w.heap.size := (Array.getElem?_eq_some_iff.1 k2).1
      rcases selfX_or hX with rfl | rfl
      · cases c1
        refine (copyCheck_fresh g' w (by simp [World.cell?, k2]) (by simp [World.shape?, k2]) (by simp [World.frozen?, k2])).mono ?_
        rintro e w' ⟨rfl, rfl⟩
        obtain ⟨s1, s2⟩ := setCells_row g' 41 (0, 0) [.pointer (some ⟨g', 0, none⟩)] 0 w _ k2 (by simp)
        have e1 : w.setCells g' 0 [.pointer (some ⟨g', 0, none⟩)] = w.setCell ⟨g', 0, none⟩ (.pointer (some ⟨g', 0, none⟩)) := rfl
        rw [e1] at s1 s2
        have hblk : (AObj.cells 41 [(1, .con (.pointer none)), (1, Y)]).blk ρ 0 = some g' := by simp [AObj.blk, h1, ablk]
        have hE : Ext w (w.setCell ⟨g', 0, none⟩ (.pointer (some ⟨g', 0, none⟩))) S S ρ ρ := ⟨fun b hb => s2.block b (H.slt b hb) (fun e => by injection e with e; subst e; exact k4 hb), fun _ h => h, fun _ _ _ h => h⟩
        obtain ⟨H', hE'⟩ := H.upd (id := 0) (S' := S) (ρ' := ρ) (o' := .cells 41 [(1, .ref 0 0 0), (1, Y)]) rfl (by rw [hblk]; exact s2) (fun _ h => h) (fun _ h => .inl h) (fun _ _ _ h => h) (fun _ _ _ => rfl)
          ⟨g', [.pointer (some ⟨g', 0, none⟩), y], h1, by simpa using s1, ⟨[_], [y], rfl, rfl, .ref 0 0 0 g' _ h1 rfl, [y], [], rfl, rfl, c2.ext hE.mem hE.st hE.loc, rfl⟩, k4⟩ (fun v hv => H.vers 0 _ rfl v hv) (fun b hb => .inl (by simpa [AObj.blk] using hb))
        exact ⟨_, S, ρ, rfl, ⟨[], rfl, rfl, fun i hi => by simp at hi⟩, H', hE', fun b hb => .inl hb⟩
      · cases c1 with
        | ref _ _ _ g2 L2 q1 q2 =>
        rw [h1] at q1; injection q1 with q1; subst q1
        injection q2 with q2; injection q2 with q2; subst q2
        refine (copyCheck_used g' w (by simp [World.cell?, k2])).mono ?_
        rintro e w' ⟨rfl, rfl⟩
        exact ⟨_, S, ρ, rfl, ⟨[], rfl, rfl, fun i hi => by simp at hi⟩, H, Ext.refl _ _ _, fun b hb => .inl hb⟩
    · cases hs
  · cases hs
def c_bws : ACode := (.seq (.reg none [⟨(some 4), (.mv (.c (.int .i64 0))), none⟩, ⟨(some 5), (.mv (.c (.con .nilIface))), none⟩]) (.seq (.reg none [⟨(some 6), (.mv (.t 0)), none⟩, ⟨(some 7), (.call 38 [(.t 6)]), none⟩]) (.seq (.reg none [⟨(some 8), (.mv (.t 0)), none⟩, ⟨(some 9), (.mv (.t 0)), none⟩, ⟨(some 10), (.nck (.t 9)), none⟩, ⟨(some 11), (.fa 1 (.t 10)), none⟩, ⟨(some 12), (.ld (.one (.con (.slice none 0 0))) (.t 11)), none⟩, ⟨(some 13), (.mv (.t 1)), none⟩, ⟨(some 14), (.appS 5 (.t 12) (.t 13)), none⟩, ⟨(some 15), (.nck (.t 8)), none⟩, ⟨(some 16), (.fa 1 (.t 15)), none⟩, ⟨none, (.st (.one (.con (.slice none 0 0))) (.t 16) (.t 14)), none⟩]) (.seq (.reg none [⟨(some 17), (.mv (.t 1)), none⟩, ⟨(some 18), (.len none true (.t 17)), none⟩, ⟨(some 4), (.mv (.t 18)), none⟩, ⟨(some 5), (.mv (.c (.con .nilIface))), none⟩]) .ret))))
def r_bws : List ARes := [(.t 4), (.t 5)]
theorem s_bws : slimF Tryd.prog Tryd.f22 = some (c_bws, r_bws) := by kernel_rfl
def bwsS : Spec := fun xs hp => match xs, hp with
  | [.ref 0 0 0, .str s], [.cells T [(1, X), (1, .con (.slice none 0 0))]] => if selfX X = true then some ⟨.tup [.int .i64 (s.length : Int), .con .nilIface], [.cells T [(1, .ref 0 0 0), (1, .own 1 0)], .row 5 1 0 (Bs s)], T = 41 ∧ bytesOk s.length⟩ else none
  | [.ref 0 0 0, .str s], [.cells T [(1, X), (1, .own 1 v)], .row e 1 v' bs] => if selfX X = true ∧ v = v' ∧ e = 5 then some ⟨.tup [.int .i64 (s.length : Int), .con .nilIface], [.cells T [(1, .ref 0 0 0), (1, .own 1 (v + 1))], .row 5 1 (v + 1) (bs ++ Bs s)], T = 41 ∧ bytesOk (bs.length + s.length)⟩ else none
  | _, _ => none
theorem bws_ok : FnOk Tryd.prog 22 bwsS := by
  refine fn_slim2 Tryd.func22 s_bws (Φ := phiL [(38, [], copyCheckS)]) (phi_cons copyCheckA_ok (by kernel_rfl) phi_nil) ?_
  intro xs hp r hs hp'
  unfold bwsS at hs
  split at hs
  · rename_i s T X
    split at hs
    · rename_i hX
      injection hs with hs; subst hs
      obtain ⟨rfl, p2⟩ := hp'
      refine ⟨len_le (by kernel_rfl), ?_⟩
      unfold bytesOk at p2
      rcases selfX_or hX with rfl | rfl
      · simp only [c_bws, r_bws, copyCheckS, hX, go_sem, Nat.reduceDiv, Nat.reduceMod, ↓reduceIte, Nat.reduceEqDiff, Nat.reduceBEq, Nat.reduceSub, Nat.reduceLT, Nat.reduceAdd, Nat.reduceLeDiff, reduceCtorEq, Int.reduceEq, Int.reduceNe, Int.reduceLT, Int.reduceLE, Int.reduceToNat]
        exact ⟨by unfold lenOk; omega, p2⟩
      · simp only [c_bws, r_bws, copyCheckS, hX, go_sem, Nat.reduceDiv, Nat.reduceMod, ↓reduceIte, Nat.reduceEqDiff, Nat.reduceBEq, Nat.reduceSub, Nat.reduceLT, Nat.reduceAdd, Nat.reduceLeDiff, reduceCtorEq, Int.reduceEq, Int.reduceNe, Int.reduceLT, Int.reduceLE, Int.reduceToNat]
        exact ⟨by unfold lenOk; omega, p2⟩
    · cases hs
  · rename_i s T X v e v' bs
    split at hs
    · rename_i hX
      obtain ⟨hX, rfl, rfl⟩ := hX
      injection hs with hs; subst hs
      obtain ⟨rfl, p2⟩ := hp'
      refine ⟨len_le (by kernel_rfl), ?_⟩
      unfold bytesOk at p2
      rcases selfX_or hX with rfl | rfl
      · simp only [c_bws, r_bws, copyCheckS, hX, List.length_append, Bs_len, go_sem, Nat.reduceDiv, Nat.reduceMod, ↓reduceIte, Nat.reduceEqDiff, Nat.reduceBEq, Nat.reduceSub, Nat.reduceLT, Nat.reduceAdd, Nat.reduceLeDiff, reduceCtorEq, Int.reduceEq, Int.reduceNe, Int.reduceLT, Int.reduceLE, Int.reduceToNat]
        exact ⟨by unfold lenOk; omega, p2⟩
      · simp only [c_bws, r_bws, copyCheckS, hX, List.length_append, Bs_len, go_sem, Nat.reduceDiv, Nat.reduceMod, ↓reduceIte, Nat.reduceEqDiff, Nat.reduceBEq, Nat.reduceSub, Nat.reduceLT, Nat.reduceAdd, Nat.reduceLeDiff, reduceCtorEq, Int.reduceEq, Int.reduceNe, Int.reduceLT, Int.reduceLE, Int.reduceToNat]
        exact ⟨by unfold lenOk; omega, p2⟩
    · cases hs
  · cases hs
set_option maxHeartbeats 1000000 in
set_option maxRecDepth 100000 in
theorem bstr_some (b g cap : Nat) (p : Value) (cur : Array Value) (fr : Nat × Nat) (l : List UInt8) (w : World) (h0 : l ≠ []) (hbk : w.heap[b]? = some (.cells #[p, .slice (some ⟨g, 0, none⟩) l.length cap] 41 (0, 0))) (hg : w.heap[g]? = some (.cells cur 5 fr))
    (hnc : l.length ≤ cap) (hcm : cap ≤ 9223372036854775807) (hcs : cur.size = cap) (htake : cur.toList.take l.length = l.map U) :
    Calls Tryd.prog 24 #[.pointer (some ⟨b, 0, none⟩)] w fun e w' => e = .returned (.string ⟨l.toArray⟩) ∧ w' = w.drew.freeze ⟨g, 0, none⟩ l.length := by
  have hl0 : l.length ≠ 0 := by simpa using h0
  have c1 : w.drew.cell? ⟨b, 1, none⟩ = some (.slice (some ⟨g, 0, none⟩) l.length cap) := by
    have : w.drew.heap[b]? = some (.cells #[p, .slice (some ⟨g, 0, none⟩) l.length cap] 41 (0, 0)) := hbk
    rw [Lib.cell_of_heap this]; rfl
  have hSD : (Builtin.unsafeSliceData_ #[39] 56 #[.slice (some ⟨g, 0, none⟩) l.length cap]).run Tryd.prog w.drew = .ok (.pointer (some ⟨g, 0, none⟩)) w.drew :=
    Lib.run_unsafeSliceData_row _ _ _ _ _ _ (by omega)
  have hUS : (Builtin.unsafeString_ #[56, 3] 9 #[.pointer (some ⟨g, 0, none⟩), .int .i64 l.length]).run Tryd.prog w.drew = .ok (.string ⟨l.toArray⟩) (w.drew.freeze ⟨g, 0, none⟩ l.length) := by
    refine Lib.run_unsafeString_row w.drew 56 3 9 5 Tryd.underlying56 (by kernel_rfl) g cur.size (by have hg' : w.drew.heap[g]? = some (.cells cur 5 fr) := hg; simp [World.shape?, hg']) l h0 (by omega) (by omega) ?_
    intro j x hx
    have hg' : w.drew.heap[g]? = some (.cells cur 5 fr) := hg
    rw [add_spot, Nat.zero_add, Lib.cell_of_heap hg']
    have h1 := congrArg (fun z => z[j]?) htake
    have hj : j < l.length := (List.getElem?_eq_some_iff.1 hx).1
    simp only [List.getElem?_take, if_pos hj, List.getElem?_map, hx, Option.map_some] at h1
    rw [← Array.getElem?_toList]; exact h1
  have mixed : Tryd.prog.follows .mixedOrders = true := by kernel_rfl
  go_enter Tryd.func24, Tryd.ntmps24
  go_wp2
  go_region_o
  all_goals (go_wp2; go_ret; exact ⟨rfl, rfl⟩)
set_option maxHeartbeats 2000000 in
set_option maxRecDepth 100000 in
theorem bstr_nil (b : Nat) (p : Value) (w : World) (hbk : w.heap[b]? = some (.cells #[p, .slice none 0 0] 41 (0, 0))) :
    Calls Tryd.prog 24 #[.pointer (some ⟨b, 0, none⟩)] w fun e w' => e = .returned (.string ⟨#[]⟩) ∧ Below w.heap.size w w' := by
  have c1 : w.drew.cell? ⟨b, 1, none⟩ = some (.slice none 0 0) := by
    have : w.drew.heap[b]? = some (.cells #[p, .slice none 0 0] 41 (0, 0)) := hbk
    rw [Lib.cell_of_heap this]; rfl
  have hSD : (Builtin.unsafeSliceData_ #[39] 56 #[.slice none 0 0]).run Tryd.prog w.drew = .ok (.pointer none) w.drew := rfl
  have mixed : Tryd.prog.follows .mixedOrders = true := by kernel_rfl
  have hUS := fun (W : World) (q : Option Addr) => Lib.run_unsafeString_none (P := Tryd.prog) W 56 3 9 q
  go_enter Tryd.func24, Tryd.ntmps24
  go_wp2
  go_region_o
  all_goals (go_wp2; go_ret; exact ⟨rfl, Below.drew (Below.refl _ w)⟩)
set_option maxHeartbeats 2000000 in
set_option maxRecDepth 100000 in
theorem bstr_room (b g cap : Nat) (p : Value) (w : World) (hc0 : cap ≠ 0) (hbk : w.heap[b]? = some (.cells #[p, .slice (some ⟨g, 0, none⟩) 0 cap] 41 (0, 0))) :
    Calls Tryd.prog 24 #[.pointer (some ⟨b, 0, none⟩)] w fun e w' => e = .returned (.string ⟨#[]⟩) ∧ Below w.heap.size w w' := by
  have c1 : w.drew.cell? ⟨b, 1, none⟩ = some (.slice (some ⟨g, 0, none⟩) 0 cap) := by
    have : w.drew.heap[b]? = some (.cells #[p, .slice (some ⟨g, 0, none⟩) 0 cap] 41 (0, 0)) := hbk
    rw [Lib.cell_of_heap this]; rfl
  have hSD : (Builtin.unsafeSliceData_ #[39] 56 #[.slice (some ⟨g, 0, none⟩) 0 cap]).run Tryd.prog w.drew = .ok (.pointer (some ⟨g, 0, none⟩)) w.drew :=
    Lib.run_unsafeSliceData_row _ _ _ _ _ _ hc0
  clear hc0
  have mixed : Tryd.prog.follows .mixedOrders = true := by kernel_rfl
  have hUS := fun (W : World) (q : Option Addr) => Lib.run_unsafeString_none (P := Tryd.prog) W 56 3 9 q
  go_enter Tryd.func24, Tryd.ntmps24
  go_wp2
  go_region_o
  all_goals (go_wp2; go_ret; exact ⟨rfl, Below.drew (Below.refl _ w)⟩)
set_option maxHeartbeats 2000000 in
set_option maxRecDepth 100000 in
theorem bstr_noroom (b g : Nat) (p : Value) (cur : Array Value) (fr : Nat × Nat) (w : World) (hbk : w.heap[b]? = some (.cells #[p, .slice (some ⟨g, 0, none⟩) 0 0] 41 (0, 0))) (hg : w.heap[g]? = some (.cells cur 5 fr)) :
    Calls Tryd.prog 24 #[.pointer (some ⟨b, 0, none⟩)] w fun e w' => e = .returned (.string ⟨#[]⟩) ∧ Below w.heap.size w w' := by
  have hlt : b < w.heap.size := (Array.getElem?_eq_some_iff.1 hbk).1
  have c1 : w.drew.cell? ⟨b, 1, none⟩ = some (.slice (some ⟨g, 0, none⟩) 0 0) := by
    have : w.drew.heap[b]? = some (.cells #[p, .slice (some ⟨g, 0, none⟩) 0 0] 41 (0, 0)) := hbk
    rw [Lib.cell_of_heap this]; rfl
  have hSD : (Builtin.unsafeSliceData_ #[39] 56 #[.slice (some ⟨g, 0, none⟩) 0 0]).run Tryd.prog w.drew = .ok (.pointer (some ⟨w.drew.heap.size, 0, none⟩)) (w.drew.alloc (.view ⟨g, 0, none⟩ 5)) :=
    Lib.run_unsafeSliceData_zero w.drew _ _ 5 Tryd.underlying56 ⟨g, 0, none⟩ 0 (5, cur.size) (by have hg' : w.drew.heap[g]? = some (.cells cur 5 fr) := hg; simp [World.shape?, hg'])
  have c2 : (w.drew.alloc (.view ⟨g, 0, none⟩ 5)).cell? ⟨b, 1, none⟩ = some (.slice (some ⟨g, 0, none⟩) 0 0) := by
    have : (w.drew.alloc (.view ⟨g, 0, none⟩ 5)).heap[b]? = _ := (Lib.alloc_old w.drew _ b hlt).trans hbk
    rw [Lib.cell_of_heap this]; rfl
  have c3 : (w.alloc (.view ⟨g, 0, none⟩ 5)).drew.cell? ⟨b, 1, none⟩ = some (.slice (some ⟨g, 0, none⟩) 0 0) := c2
  have c0 : w.cell? ⟨b, 1, none⟩ = some (.slice (some ⟨g, 0, none⟩) 0 0) := c1
  have mixed : Tryd.prog.follows .mixedOrders = true := by kernel_rfl
  have hUS := fun (W : World) (q : Option Addr) => Lib.run_unsafeString_none (P := Tryd.prog) W 56 3 9 q
  go_enter Tryd.func24, Tryd.ntmps24
  go_wp2
  go_region_o
  all_goals (go_wp2; go_ret; exact ⟨rfl, (Below.drew (Below.refl _ w)).alloc (Nat.le_refl _) _⟩)
def bstrS : Spec := fun xs hp => match xs, hp with
  | [.ref 0 0 0], [.cells T [(1, X), (1, .con (.slice none 0 0))]] => some ⟨.str [], [.cells T [(1, X), (1, .con (.slice none 0 0))]], T = 41⟩
  | [.ref 0 0 0], [.cells T [(1, X), (1, .own 1 v)], .row e 1 v' bs] => if v = v' ∧ e = 5 then some ⟨.str (unB bs), [.cells T [(1, X), (1, .own 1 v)], .froz 1 v bs], T = 41 ∧ bs = Bs (unB bs)⟩ else none
  | _, _ => none
theorem bstr_ok : FnOk Tryd.prog 24 bstrS := by
  intro xs0 hp r hs hp' w S ρ args H ha
  unfold bstrS at hs
  split at hs
  · rename_i T X
    injection hs with hs; subst hs
    have hT : T = 41 := hp'
    subst hT
    obtain ⟨v, vs, rfl, hv, hr⟩ := ha.get _ _ rfl
    obtain rfl := hr.none
    obtain ⟨g, L, h1, h2, rfl⟩ := hv.ref
    obtain ⟨g', us, k1, k2, k3, k4⟩ := H.ob 0 _ rfl
    rw [h1] at k1; injection k1 with k1; subst k1
    injection h2 with h2; injection h2 with h2; subst h2
    obtain ⟨x, y, rfl, c1, c2⟩ := css_two k3
    cases c2
    refine (bstr_nil g' x w k2).mono ?_
    rintro e w' ⟨rfl, hb⟩
    obtain ⟨H', hE⟩ := H.same (w' := w') (S' := S) hb (fun _ h => h) (fun _ h => .inl h)
    exact ⟨_, S, ρ, rfl, Vl.str' _, H', hE, fun b hb => .inl hb⟩
  · rename_i T X v e v' bs
    split at hs
    · rename_i hc
      obtain ⟨rfl, rfl⟩ := hc
      injection hs with hs; subst hs
      obtain ⟨rfl, p2⟩ := hp'
      generalize hl : unB bs = l at *
      subst p2
      obtain ⟨u, vs, rfl, hv, hr⟩ := ha.get _ _ rfl
      obtain rfl := hr.none
      obtain ⟨g, L, h1, h2, rfl⟩ := hv.ref
      obtain ⟨g', us, k1, k2, k3, k4⟩ := H.ob 0 _ rfl
      rw [h1] at k1; injection k1 with k1; subst k1
      injection h2 with h2; injection h2 with h2; subst h2
      obtain ⟨x, y, rfl, c1, c2⟩ := css_two k3
      cases c2 with
      | own _ _ L1 q1 =>
      obtain ⟨L', ws, o1, o2, o3, o4, o5, o6⟩ := H.ob 1 _ rfl
      rw [q1] at o1; injection o1 with o1; subst o1
      rw [Bs_len] at o2
      have hws : ws = l.map U := css_bytes_eq o5
      have hone : L1.sz = 1 := o3
      obtain ⟨r1, r2⟩ := o4
      have vx : ∀ (w' : World) (S' : Nat → Prop), Ext w w' S S' ρ ρ → Vl w' S' ρ (.str l) (.string ⟨l.toArray⟩) := fun _ _ _ => Vl.str' _
      by_cases h0 : l = []
      · subst h0
        have hn0 : L1.n = 0 := o2
        have fin : ∀ w', Below w.heap.size w w' → ∃ u S' ρ', Ending.returned (.string ⟨#[]⟩) = Ending.returned u ∧ Vl w' S' ρ' (.str []) u ∧ HeapOk (Lent ρ [.cells 41 [(1, X), (1, .own 1 v)], .row 5 1 v (Bs [])]) w S' ρ' [.cells 41 [(1, X), (1, .own 1 v)], .froz 1 v (Bs [])] w' ∧ Ext w w' S S' ρ ρ' ∧ (∀ b, S' b → S b ∨ w.heap.size ≤ b ∨ Lent ρ [.cells 41 [(1, X), (1, .own 1 v)], .row 5 1 v (Bs [])] b) := by
          intro w' hb
          obtain ⟨H1, hE1⟩ := H.same (w' := w') (S' := S) hb (fun _ h => h) (fun _ h => .inl h)
          have hc : L1.c ≤ 9223372036854775807 := by
            rcases r2 with ⟨_, _, h⟩ | ⟨_, _, _, _, _, _, _, h, _⟩ <;> omega
          obtain ⟨H2, hE2⟩ := H1.upd (id := 1) (w' := w') (S' := S) (ρ' := ρ) (o' := .froz 1 v (Bs [])) rfl (World.grownBy.refl w' _) (fun _ h => h) (fun _ h => .inl h) (fun _ _ _ h => h) (fun _ _ _ => rfl)
            ⟨L1, q1, o2, o3, by rw [hn0]; exact .sl0 1 _ _ hc⟩ (fun u hu => H.vers 1 _ rfl u hu) (fun b hb => by cases hb)
          exact ⟨_, S, ρ, rfl, Vl.str' _, H2, hE1.trans hE2, fun b hb => .inl hb⟩
        rcases r2 with ⟨z1, z2, z3⟩ | ⟨g, cur, fr, z1, z2, z3, z4, z5, z6, z7⟩
        · rw [z1, z2, z3] at k2
          refine (bstr_nil g' x w k2).mono ?_
          rintro e w' ⟨rfl, hb⟩
          exact fin w' hb
        · rw [z1, hn0] at k2
          by_cases hc0 : L1.c = 0
          · rw [hc0] at k2
            refine (bstr_noroom g' g x cur fr w k2 z2).mono ?_
            rintro e w' ⟨rfl, hb⟩
            exact fin w' hb
          · refine (bstr_room g' g L1.c x w hc0 k2).mono ?_
            rintro e w' ⟨rfl, hb⟩
            exact fin w' hb
      · have hl0 : l.length ≠ 0 := by simpa using h0
        rcases r2 with ⟨z1, z2, z3⟩ | ⟨g, cur, fr, z1, z2, z3, z4, z5, z6, z7⟩
        · omega
        · rw [hone, Nat.mul_one] at z6 z7
          rw [z1, o2] at k2
          rw [o2] at z4 z7
          refine (bstr_some g' g L1.c x cur fr l w h0 k2 z2 z4 z5 z6 (by rw [z7, hws])).mono ?_
          rintro e w' ⟨rfl, rfl⟩
          have hgl : g < w.heap.size := (Array.getElem?_eq_some_iff.1 z2).1
          obtain ⟨fr', hfz⟩ : ∃ fr', (w.drew.freeze ⟨g, 0, none⟩ l.length).heap = w.heap.modify g fun o => if o matches .cells _ _ _ then .cells cur 5 fr' else o := by
            obtain ⟨lo, hi⟩ := fr
            refine ⟨if lo == hi then (0, l.length) else (min lo 0, max hi l.length), ?_⟩
            have hg := (Array.getElem?_eq_some_iff.1 z2)
            obtain ⟨hg1, hg2⟩ := hg
            unfold World.freeze
            rw [if_neg (by simpa using hl0)]
            simp only
            show Array.modify w.heap g _ = _
            apply Array.ext
            · simp
            · intro i h1 h2
              simp only [Array.getElem_modify]
              by_cases hgi : g = i
              · subst hgi; simp only [if_true, hg2, Nat.zero_add]
              · simp only [if_neg hgi]
          generalize hW : w.drew.freeze ⟨g, 0, none⟩ l.length = W at *
          have hgb : w.grownBy W (some g) := by
            rw [← hW]
            refine ⟨by unfold World.freeze; split <;> rfl, by unfold World.freeze; split <;> rfl, by unfold World.freeze; split <;> rfl, by rw [hW, hfz]; simp, fun k hk hne => ?_⟩
            rw [hW, hfz, Array.getElem?_modify, if_neg (fun e => hne (by rw [e]))]
          have hw' : W.heap[g]? = some (.cells cur 5 fr') := by
            rw [hfz, Array.getElem?_modify, if_pos rfl, z2]; rfl
          have hblk : (AObj.row 5 1 v (Bs l)).blk ρ 1 = some g := by simp [AObj.blk, q1, ablk, z1]
          obtain ⟨H2, hE2⟩ := H.upd (id := 1) (w' := W) (S' := fun b => S b ∨ b = g) (ρ' := ρ) (o' := .froz 1 v (Bs l)) rfl (by rw [hblk]; exact hgb) (fun _ h => .inl h) (fun b h => h.elim .inl fun h => .inr (.inr (by rw [hblk, h]))) (fun _ _ _ h => h) (fun _ _ _ => rfl)
            ⟨L1, q1, by rw [Bs_len]; exact o2, o3, by
              rw [z1, o2, show (l.length : Nat) = (Bs l).length by rw [Bs_len]]
              refine .sl 1 (Bs l) (l.map U) g 0 L1.c (.inr rfl) (css_bytes l).cs (by simp [Bs_len]) (fun j hj => ?_) (by rw [Bs_len]; exact z4) z5
              rw [cell_of_row W g _ cur _ fr' hw', Nat.zero_add, ← hws, ← z7, List.getElem?_take, if_pos (by simpa using hj), Array.getElem?_toList]⟩ (fun u hu => H.vers 1 _ rfl u hu) (fun b hb => by cases hb)
          exact ⟨_, _, ρ, rfl, Vl.str' _, H2, hE2, fun b hb => hb.elim .inl fun h => .inr (.inr ⟨1, _, rfl, by rw [hblk, h]⟩)⟩
    · cases hs
  · cases hs
end Go.Proofs.YtakojeefilpibaaDoor
namespace Go.Proofs.YtakojeefilpibaaDoor
set_option linter.all false
open Go.RowKit
section
variable {P : Program} {f : FuncId} {sp sp1 : Spec} {w0 w : World} {F S : Nat → Prop} {ρ : Rho} {hp : List AObj}
end
end Go.Proofs.YtakojeefilpibaaDoor
namespace Go.Proofs.YtakojeefilpibaaDoor
set_option linter.all false
open Go.RowKit
inductive ZW (Φ : Phi) (m : Nat) : ACode → (Exit → S2 → Prop) → S2 → Prop
  | run {c : ACode} {Q : Exit → S2 → Prop} {s : S2} (Q1 : Exit → S2 → Prop) : (∀ e s, Q1 e s → Q e s) → awp2 Φ m c Q1 s → ZW Φ m c Q s
  | seq {x y : ACode} {Q : Exit → S2 → Prop} {s : S2} (K : S2 → Prop) : ZW Φ m x (thenQ2 K Q) s → (∀ s1, K s1 → ZW Φ m y Q s1) → ZW Φ m (.seq x y) Q s
  | cond {c : Opd} {x y : ACode} {Q : Exit → S2 → Prop} {s : S2} (b : Bool) : (toS s).ev c = .bool b → (b = true → ZW Φ m x Q s) → (b = false → ZW Φ m y Q s) → ZW Φ m (.cond c x y) Q s
  | frz {c : ACode} {Q : Exit → S2 → Prop} {s : S2} (l : List Nat) (hp : List AObj) : frzH s.hp l = some hp → ZW Φ m c Q ⟨s.fr, hp⟩ → ZW Φ m c Q s
  | kp {c : ACode} {Q : Exit → S2 → Prop} {s : S2} (nils : List (Nat × TypeId × Nat)) (slots ids : List Nat) (s' : St) : nodupB ids = true → ids.take m = List.range m → ent nils slots ids (toS s) = some s' → ZW Φ m c Q (ofS s') → ZW Φ m c Q s
section
variable {P : Program} {Φ : Phi} {F : Nat → Prop} {w0 w : World} {S0 S : Nat → Prop} {ρ0 ρ : Rho} {N m : Nat} {ds : List Deferred} {a : Act}
theorem Rel.frz {s : St} {l : List Nat} {hp : List AObj} (h : frzH s.hp l = some hp) (R : Rel F w0 S0 ρ0 N ds s a w) : Rel F w0 S0 ρ0 N ds ⟨s.fr, hp⟩ a w := by
  obtain ⟨S, ρ, R⟩ := R
  obtain ⟨S', i1, i2, i3, i4⟩ := frzH_ok l R.heap h
  have hE : Ext w w S S' ρ ρ := ⟨fun _ _ => rfl, i2, fun _ _ _ h => h⟩
  exact ⟨S', ρ, i1, R.fr.ext hE, R.size, R.dfr, fun b hb => (i4 b hb).elim (R.sin b) .inr, R.ext.trans hE⟩
theorem Rel.toS {s : St} {s2 : S2} (h : R2 s s2) (R : Rel F w0 S0 ρ0 N ds s a w) : Rel F w0 S0 ρ0 N ds (Go.Proofs.YtakojeefilpibaaDoor.toS s2) a w := by
  obtain ⟨S, ρ, R⟩ := R
  have e : s.hp = (Go.Proofs.YtakojeefilpibaaDoor.toS s2).hp := h.1
  exact ⟨S, ρ, by rw [← e]; exact R.heap, ⟨R.fr.1, fun t => by rw [← h.lk]; exact R.fr.2 t⟩, R.size, R.dfr, R.sin, R.ext⟩
theorem ZW.ok (hΦ : PhiOk P Φ) (hm0 : ∀ i v L, ρ0 i v = some L → i < m) {c : ACode} {Q : Exit → S2 → Prop} {s2 : S2} (h : ZW Φ m c Q s2) : ∀ (code : Code), MtC P N code c → ∀ (Q' : Exit → Act → World → Prop),
    (∀ e s s2 a w, R2 s s2 → Q e s2 → Rel F w0 S0 ρ0 N ds s a w → Q' e a w) → ∀ s a w, R2 s s2 → Rel F w0 S0 ρ0 N ds s a w → code.wp P Q' a w := by
  induction h with
  | run Q1 h1 h2 =>
    intro code hm Q' hQ s a w hR R
    exact awp_ok hΦ hm0 _ code hm (fun e s => ∃ s2, R2 s s2 ∧ Q1 e s2) Q' (fun e s a w ⟨s2, k1, k2⟩ R => hQ e s s2 a w k1 (h1 e s2 k2) R) s a w (awp2_ok _ _ Q1 (fun e s s2 h hq => ⟨s2, h, hq⟩) s _ hR h2) R
  | @seq x y Q s0 K hx hk ihx ihy =>
    intro code hm Q' hQ s a w hR R
    cases code <;> first | exact hm.elim | (rename_i d; cases d <;> exact hm.elim) | skip
    case seq x' y' =>
      refine wp_seq (ihx x' hm.1 _ (fun e s s2 a w h2 hq R => ?_) s a w hR R)
      cases e <;> first | exact ihy s2 hq y' hm.2 Q' hQ s a w h2 R | exact hQ _ _ _ _ _ h2 hq R
  | @cond c x y Q s0 b hb hx hy ihx ihy =>
    intro code hm Q' hQ s a w hR R
    cases code <;> first | exact hm.elim | (rename_i d; cases d <;> exact hm.elim) | skip
    case cond c' x' y' =>
      obtain ⟨rfl, h1, h2⟩ := hm
      have he : s.ev (opd c') = (toS s0).ev (opd c') := by
        cases opd c' with
        | t n => exact hR.lk n
        | c x => rfl
      obtain ⟨S, ρ, R0⟩ := R
      have hv := ev_ok R0.fr c'
      rw [he, hb] at hv
      refine wp_cond hv.bool ?_
      cases b with
      | true => exact ihx rfl x' h1 Q' hQ s a w hR ⟨S, ρ, R0⟩
      | false => exact ihy rfl y' h2 Q' hQ s a w hR ⟨S, ρ, R0⟩
  | @frz c Q s0 l hp hz _ ih =>
    intro code hm Q' hQ s a w hR R
    have hz' : frzH s.hp l = some hp := by rw [hR.1]; exact hz
    exact ih code hm Q' hQ ⟨s.fr, hp⟩ a w ⟨rfl, hR.2⟩ (R.frz hz')
  | @kp c Q s0 nils slots ids s' hnd htk hk _ ih =>
    intro code hm Q' hQ s a w hR R
    have hid : ∀ i v L, ρ0 i v = some L → ids[i]? = some i := fun i v L hL => by
      have hi := hm0 i v L hL
      have h1 : (ids.take m)[i]? = some i := by rw [htk]; simp [hi]
      rw [List.getElem?_take, if_pos hi] at h1; exact h1
    unfold ent at hk
    obtain ⟨s1, hk1, hk2⟩ := Option.bind_eq_some_iff.1 hk
    exact ih code hm Q' hQ s' a w (R2.ofS s') (kpI_ok (nilG_ok _ (R.toS hR) hk1) hnd hid hk2)
theorem ZW.step {x y : ACode} {Q : Exit → S2 → Prop} {s : S2} (h : awp2 Φ m x (thenQ2 (ZW Φ m y Q) Q) s) : ZW Φ m (.seq x y) Q s := .seq _ (.run _ (fun _ _ h => h) h) (fun _ h => h)
theorem ZW.sub {x y : ACode} {Q : Exit → S2 → Prop} {s : S2} (h : ZW Φ m x (thenQ2 (ZW Φ m y Q) Q) s) : ZW Φ m (.seq x y) Q s := .seq _ h (fun _ h => h)
theorem ZW.fin {c : ACode} {Q : Exit → S2 → Prop} {s : S2} (h : awp2 Φ m c Q s) : ZW Φ m c Q s := .run _ (fun _ _ h => h) h
end
end Go.Proofs.YtakojeefilpibaaDoor
namespace Go.Proofs.YtakojeefilpibaaDoor
set_option linter.all false
open Go.RowKit
inductive ZL (Φ : Phi) (m : Nat) : ACode → (Exit → S2 → Prop) → S2 → Prop
  | zw {c : ACode} {Q : Exit → S2 → Prop} {s : S2} : ZW Φ m c Q s → ZL Φ m c Q s
  | seq {x y : ACode} {Q : Exit → S2 → Prop} {s : S2} (K : S2 → Prop) : ZL Φ m x (thenQ2 K Q) s → (∀ s1, K s1 → ZL Φ m y Q s1) → ZL Φ m (.seq x y) Q s
  | frz {c : ACode} {Q : Exit → S2 → Prop} {s : S2} (l : List Nat) (hp : List AObj) : frzH s.hp l = some hp → ZL Φ m c Q ⟨s.fr, hp⟩ → ZL Φ m c Q s
  | kp {c : ACode} {Q : Exit → S2 → Prop} {s : S2} (nils : List (Nat × TypeId × Nat)) (slots ids : List Nat) (s' : St) : nodupB ids = true → ids.take m = List.range m → ent nils slots ids (toS s) = some s' → ZL Φ m c Q (ofS s') → ZL Φ m c Q s
  | block {id : Nat} {c : ACode} {Q : Exit → S2 → Prop} {s : S2} : ZL Φ m c (inQ2 id Q) s → ZL Φ m (.block id c) Q s
  | loop {c : ACode} {Q : Exit → S2 → Prop} {s : S2} (slots : List Nat) (I : St → Prop) (μ : St → Nat) : kpQ m slots (toS s) I →
      (∀ s, I s → ZL Φ m c (thenQ2 (fun s' => kpQ m slots (toS s') fun s2 => I s2 ∧ μ s2 < μ s) Q) (ofS s)) → ZL Φ m (.loop c) Q s
section
variable {P : Program} {Φ : Phi} {F : Nat → Prop} {w0 w : World} {S0 S : Nat → Prop} {ρ0 ρ : Rho} {N m : Nat} {ds : List Deferred} {a : Act}
theorem kpQ_rel {slots : List Nat} {s : St} {I : St → Prop} (hm0 : ∀ i v L, ρ0 i v = some L → i < m) (h : kpQ m slots s I) (R : Rel F w0 S0 ρ0 N ds s a w) : ∃ s', I s' ∧ Rel F w0 S0 ρ0 N ds s' a w := by
  obtain ⟨nils, ids, s', hnd, htk, hk, hI⟩ := h
  unfold ent at hk
  obtain ⟨s1, hk1, hk2⟩ := Option.bind_eq_some_iff.1 hk
  refine ⟨s', hI, kpI_ok (nilG_ok _ R hk1) hnd (fun i v L hL => ?_) hk2⟩
  have hi := hm0 i v L hL
  have h1 : (ids.take m)[i]? = some i := by rw [htk]; simp [hi]
  rw [List.getElem?_take, if_pos hi] at h1; exact h1
theorem ZL.ok (hΦ : PhiOk P Φ) (hm0 : ∀ i v L, ρ0 i v = some L → i < m) {c : ACode} {Q : Exit → S2 → Prop} {s2 : S2} (h : ZL Φ m c Q s2) : ∀ (code : Code), MtC P N code c → ∀ (Q' : Exit → Act → World → Prop),
    (∀ e s s2 a w, R2 s s2 → Q e s2 → Rel F w0 S0 ρ0 N ds s a w → Q' e a w) → ∀ s a w, R2 s s2 → Rel F w0 S0 ρ0 N ds s a w → code.wp P Q' a w := by
  induction h with
  | zw h => exact h.ok hΦ hm0
  | @seq x y Q s0 K hx hk ihx ihy =>
    intro code hm Q' hQ s a w hR R
    cases code <;> first | exact hm.elim | (rename_i d; cases d <;> exact hm.elim) | skip
    case seq x' y' =>
      refine wp_seq (ihx x' hm.1 _ (fun e s s2 a w h2 hq R => ?_) s a w hR R)
      cases e <;> first | exact ihy s2 hq y' hm.2 Q' hQ s a w h2 R | exact hQ _ _ _ _ _ h2 hq R
  | @frz c Q s0 l hp hz _ ih =>
    intro code hm Q' hQ s a w hR R
    have hz' : frzH s.hp l = some hp := by rw [hR.1]; exact hz
    exact ih code hm Q' hQ ⟨s.fr, hp⟩ a w ⟨rfl, hR.2⟩ (R.frz hz')
  | @kp c Q s0 nils slots ids s' hnd htk hk _ ih =>
    intro code hm Q' hQ s a w hR R
    obtain ⟨s3, rfl, R3⟩ := kpQ_rel (I := fun s2 => s2 = s') hm0 ⟨nils, ids, s', hnd, htk, hk, rfl⟩ (R.toS hR)
    exact ih code hm Q' hQ s3 a w (R2.ofS s3) R3
  | @block id c Q s0 _ ih =>
    intro code hm Q' hQ s a w hR R
    cases code <;> first | exact hm.elim | (rename_i d; cases d <;> exact hm.elim) | skip
    case block id' c' =>
      obtain ⟨rfl, hc⟩ := hm
      refine wp_block (ih c' hc _ (fun e s s2 a w h2 hq R => ?_) s a w hR R)
      cases e
      case exit i =>
        simp only [inQ2] at hq
        simp only [Exit.inBlock]
        split
        · rename_i e; rw [if_pos e] at hq; exact hQ _ _ _ _ _ h2 hq R
        · rename_i e; rw [if_neg e] at hq; exact hQ _ _ _ _ _ h2 hq R
      all_goals exact hQ _ _ _ _ _ h2 hq R
  | @loop c Q s0 slots I μ h0 _ ih =>
    intro code hm Q' hQ s a w hR R
    cases code <;> first | exact hm.elim | (rename_i d; cases d <;> exact hm.elim) | skip
    case loop c' =>
      obtain ⟨s1, hI, R1⟩ := kpQ_rel hm0 h0 (R.toS hR)
      have key : ∀ (k : Nat) (s : St) (a : Act) (w : World), μ s = k → I s → Rel F w0 S0 ρ0 N ds s a w → ∀ (b : Frame) (kk : List Item) (cs : List Frame), ∃ e a' w', Q' e a' w' ∧ Arrives P (lone (b.at a (.code c' :: .inLoop c' :: kk)) cs w) b kk cs e a' w' := by
        intro k
        induction k using Nat.strongRecOn with
        | _ k ihk =>
          intro s a w hk hI R b kk cs
          have hbody := ih s hI c' hm (Exit.then (fun a' w' => ∃ s2, (I s2 ∧ μ s2 < μ s) ∧ Rel F w0 S0 ρ0 N ds s2 a' w') Q') (fun e s1 s2 a1 w1 h2 hq R1 => by
            cases e
            case normal => exact kpQ_rel hm0 hq (R1.toS h2)
            all_goals exact hQ _ _ _ _ _ h2 hq R1) s a w (R2.ofS s) R
          obtain ⟨e, a1, w1, hq, harr⟩ := hbody b (.inLoop c' :: kk) cs
          cases e with
          | normal =>
            obtain ⟨s2, ⟨hI2, hlt⟩, R2⟩ := hq
            obtain ⟨e2, a2, w2, hq2, harr2⟩ := ihk (μ s2) (by omega) s2 a1 w1 rfl hI2 R2 b kk cs
            exact ⟨e2, a2, w2, hq2, .of_steps (Steps.trans harr (.one step_inLoop)) harr2⟩
          | exit id => exact ⟨_, a1, w1, hq, .pass (x := .inLoop c') rfl (fun _ _ => .inl (by simp)) harr⟩
          | goto l => exact ⟨_, a1, w1, hq, .pass (x := .inLoop c') rfl (fun _ _ => .inl (by simp)) harr⟩
          | ret => exact ⟨_, a1, w1, hq, .pass (x := .inLoop c') rfl (fun _ _ => .inl (by simp)) harr⟩
          | panic ch => exact ⟨_, a1, w1, hq, .pass (x := .inLoop c') rfl (fun _ _ => .inl (by simp)) harr⟩
          | outgrown => exact ⟨_, a1, w1, hq, .pass (x := .inLoop c') rfl (fun _ _ => .inl (by simp)) harr⟩
      intro b kk cs
      obtain ⟨e, a', w', hq, harr⟩ := key _ s1 a w rfl hI R1 b kk cs
      exact ⟨e, a', w', hq, .of_steps (.one step_loop) harr⟩
theorem ZL.fin {c : ACode} {Q : Exit → S2 → Prop} {s : S2} (h : awp2 Φ m c Q s) : ZL Φ m c Q s := .zw (.fin h)
theorem ZL.step {x y : ACode} {Q : Exit → S2 → Prop} {s : S2} (h : awp2 Φ m x (thenQ2 (ZL Φ m y Q) Q) s) : ZL Φ m (.seq x y) Q s := .seq _ (.fin h) (fun _ h => h)
theorem ZL.sub {x y : ACode} {Q : Exit → S2 → Prop} {s : S2} (h : ZL Φ m x (thenQ2 (ZL Φ m y Q) Q) s) : ZL Φ m (.seq x y) Q s := .seq _ h (fun _ h => h)
theorem fnL_ok {f : FuncId} {fn : Func} {code : Code} {ac : ACode} {rs : List ARes} {sp : Spec} (hf : P.funcs[f]? = some fn) (hb : fn.body = some code) (hm : MtC P fn.ntmps code ac) (hr : All2 (MtR P) fn.results.toList rs) (hΦ : PhiOk P Φ)
    (h : ∀ avs hp r, sp avs hp = some r → r.pre → avs.length ≤ fn.ntmps ∧ ZL Φ hp.length ac (retQ2 rs hp.length r) (ofS ⟨slots 0 avs, hp⟩)) : FnOk P f sp := by
  intro avs hp r hs hp' w S ρ args H ha
  obtain ⟨hlen, hw⟩ := h avs hp r hs hp'
  refine calls_of_wp hf hb ?_
  have hal : args.length ≤ fn.ntmps := by rw [ha.2]; exact hlen
  have R : Rel (Lent ρ hp) w S ρ fn.ntmps [] ⟨slots 0 avs, hp⟩ { tmps := args.toArray ++ Array.replicate (fn.ntmps - args.toArray.size) undef, defers := [] } w := by
    refine ⟨S, ρ, H, ⟨ha.1, fun t => ?_⟩, by simp; omega, rfl, fun b hb => .inl hb, Ext.refl _ _ _⟩
    rw [lk_slots, if_pos (Nat.zero_le t), Nat.sub_zero]
    rcases Nat.lt_or_ge t avs.length with hlt | hge
    · have := ha.3 t hlt
      have e : (args.toArray ++ Array.replicate (fn.ntmps - args.toArray.size) undef).getD t undef = args.getD t undef := by
        have hta : t < args.length := by rw [ha.2]; exact hlt
        have h1 : (args.toArray ++ Array.replicate (fn.ntmps - args.toArray.size) undef)[t]? = some args[t] := by
          rw [Array.getElem?_append_left (by simpa using hta)]; simp [hta]
        rw [Array.getD_eq_getD_getElem?, h1, List.getD_eq_getElem?_getD, List.getElem?_eq_getElem hta]
      rw [e]; exact this
    · have : avs.getD t .top = .top := by rw [List.getD_eq_getElem?_getD, List.getElem?_eq_none hge]; rfl
      rw [this]; exact Vl.top _
  have fin : ∀ (s : St) (a : Act) (w' : World), finP hp.length r s (aret s rs) → Rel (Lent ρ hp) w S ρ fn.ntmps [] s a w' →
      a.defers = [] ∧ ∃ v, (results fn a.tmps).run P w' = .ok v w' ∧ ∃ v' S' ρ', Ending.returned v = .returned v' ∧ Vl w' S' ρ' r.v v' ∧ HeapOk (Lent ρ hp) w S' ρ' r.hp w' ∧ Ext w w' S S' ρ ρ' ∧ (∀ b, S' b → S b ∨ w.heap.size ≤ b ∨ Lent ρ hp b) := by
    intro s a w' hfin hR
    obtain ⟨S', ρ', R⟩ := hR
    unfold finP at hfin
    split at hfin
    · rename_i x p hx
      obtain ⟨hp1, hfin⟩ := hfin
      generalize closeIds s.hp 2 (addNew (List.range hp.length) (idsOf 4 x)) = ids at hfin
      obtain ⟨i1, i2, i3, i4⟩ := hfin
      obtain ⟨v, hv1, hv2⟩ := aret_ok R.heap.obs R.fr hr hx hp1
      obtain ⟨H', hσ⟩ := R.heap.restr i2 i4
      refine ⟨R.dfr, v, hv1, v, S', _, rfl, ren_vl hσ i3 hv2, H', ⟨R.ext.mem, R.ext.st, fun i u L hL => ?_⟩, fun b hb => ?_⟩
      · have hi : i < hp.length := by
          rcases Nat.lt_or_ge i hp.length with h1 | h1
          · exact h1
          · rw [H.new i h1] at hL; cases hL
        have h1 : ids[i]? = some i := by
          have : (ids.take hp.length)[i]? = some i := by rw [i1]; simp [hi]
          rw [List.getElem?_take, if_pos hi] at this; exact this
        simp only [h1]
        exact R.ext.loc _ _ _ hL
      · rcases R.sin b hb with h | h | h
        · exact .inl h
        · exact .inr (.inr h)
        · exact .inr (.inl h)
    · exact hfin.elim
  refine hw.ok hΦ (fun i v L hL => ?_) code hm _ (fun e s s2 a w' h2 hq R' => ?_) _ _ w (R2.ofS _) R
  · rcases Nat.lt_or_ge i hp.length with h1 | h1
    · exact h1
    · rw [H.new i h1] at hL; cases hL
  · have hq := retQ2_ok e s s2 h2 hq
    cases e with
    | normal => exact fin s a w' hq R'
    | ret => exact fin s a w' hq R'
    | _ => exact hq.elim
theorem fn_slimL {f : FuncId} {fn : Func} {ac : ACode} {rs : List ARes} {sp : Spec} {pr : Bool} (hf : P.funcs[f]? = some fn) (hs : slimG pr P fn = some (ac, rs)) (hΦ : PhiOk P Φ)
    (h : ∀ avs hp r, sp avs hp = some r → r.pre → avs.length ≤ fn.ntmps ∧ ZL Φ hp.length ac (retQ2 rs hp.length r) (ofS ⟨slots 0 avs, hp⟩)) : FnOk P f sp := by
  unfold slimG at hs
  split at hs
  · rename_i c hc
    split at hs
    · rename_i ac' rs' h1 h2
      simp only [Option.some.injEq, Prod.mk.injEq] at hs
      obtain ⟨rfl, rfl⟩ := hs
      exact fnL_ok hf hc (slimC_ok h1) (all2_mapO (fun _ _ => slimR_ok) h2) hΦ h
    · cases hs
  · cases hs
end
end Go.Proofs.YtakojeefilpibaaDoor
