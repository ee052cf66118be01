import Derived.Test.YtgaehhechonegaaGreatDoorQFGrow0
import Derived.Test.YtgaehhechonegaaGreatDoorQRComCode
import Derived.Test.YtgaehhechonegaaGreatDoorQShelf
import Derived.Test.YtgaehhechonegaaGreatDoorQFZone
import Derived.Test.YtgaehhechonegaaGreatDoorQFBld
import Derived.Test.YtgaehhechonegaaGreatDoorChecked
import Derived.Lib.ItoaLen
namespace Go.Proofs.YtgaehhechonegaaGreatDoor
set_option linter.all false
open Go.RowKit
def gkeyedS : Spec := fun xs hp => match xs, hp with
  | [.str s], [] => some ⟨.bool (keyedB s), [], s.length ≤ 1000000000⟩
  | _, _ => none
theorem keyC_int (c : UInt8) : keyC c = (((((decide (97 ≤ (c.toNat : Int)) && decide ((c.toNat : Int) ≤ 122)) || (decide (65 ≤ (c.toNat : Int)) && decide ((c.toNat : Int) ≤ 90))) || (decide (48 ≤ (c.toNat : Int)) && decide ((c.toNat : Int) ≤ 57))) || decide ((c.toNat : Int) = 45)) || decide ((c.toNat : Int) = 95)) := by
  unfold keyC
  have h : ∀ a b : Nat, decide (a ≤ b) = decide ((a : Int) ≤ (b : Int)) := fun a b => by rw [Bool.eq_iff_iff]; simp
  have h2 : ∀ a b : Nat, decide (a = b) = decide ((a : Int) = (b : Int)) := fun a b => by rw [Bool.eq_iff_iff, decide_eq_true_eq, decide_eq_true_eq]; omega
  rw [h 97, h _ 122, h 65, h _ 90, h 48, h _ 57, h2 _ 45, h2 _ 95]
  rfl
set_option maxHeartbeats 2000000 in
theorem gkeyed_ok : FnOk Tryz.prog 87 gkeyedS := by
  refine fn_slim2 Tryz.func87 s_gkeyed (Φ := phiL []) phi_nil ?_
  intro xs hp r hs hp'
  unfold gkeyedS at hs
  split at hs
  · injection hs with hs; subst hs
    rename_i s
    have p1 : s.length ≤ 1000000000 := hp'
    refine ⟨len_le (by kernel_rfl), ?_⟩
    simp only [c_gkeyed, go_sem, Nat.reduceDiv, Nat.reduceMod, ↓reduceIte]
    refine ⟨by (first | omega | (simp only [lenOk]; omega)), ?_⟩
    refine loop2P [] [0, 6, 7, 8] [0] (fun i : Nat => ⟨[(0, .str s), (6, .own 0 0), (7, .int .i64 (s.length : Int)), (8, .int .i64 (i : Int))], [.row 5 1 0 (Bs s)]⟩)
      (fun i => i ≤ s.length ∧ (s.take i).all keyC = true) (fun i => s.length - i) 0 (by rfl) ⟨Nat.zero_le _, by simp⟩ ⟨rfl, by rfl⟩ (fun i hi R hR => ?_)
    obtain ⟨i1, i2⟩ := hi
    by_cases hil : i < s.length
    · have c1 : decide ((i : Int) < (s.length : Int)) = true := decide_eq_true (by omega)
      have hga : s.getD i 0 = s[i] := by simp [List.getD_eq_getElem?_getD, List.getElem?_eq_getElem hil]
      have hk := keyC_int s[i]
      have hlt := s[i].toNat_lt
      have hnext : keyC s[i] = true → (s.take (i + 1)).all keyC = true := fun h => by
        rw [List.take_add_one, List.getElem?_eq_getElem hil, Option.toList_some, List.all_append, i2]; simp [h]
      have hbad : keyC s[i] = false → keyedB s = false := fun h => by
        unfold keyedB
        rw [show s.all keyC = false from List.all_eq_false.2 ⟨s[i], List.getElem_mem _, by rw [h]; simp⟩, Bool.and_false]
      generalize hn : (s[i].toNat : Int) = n at *
      have hn0 : 0 ≤ n := by omega
      have hc : n = 45 ∨ n = 95 ∨ (97 ≤ n ∧ n ≤ 122) ∨ (65 ≤ n ∧ n ≤ 90) ∨ (48 ≤ n ∧ n ≤ 57) ∨ n < 45 ∨ (45 < n ∧ n < 48) ∨ (57 < n ∧ n < 65) ∨ (90 < n ∧ n < 95) ∨ n = 96 ∨ 122 < n := by omega
      have hat : (((s.getD i 0).toNat : Nat) : Int) = n := by rw [hga]; exact hn
      rcases hc with h | h | h | h | h | h | h | h | h | h | h
      all_goals (
        first | have f1 : decide (97 ≤ n) = true := decide_eq_true (by omega) | have f1 : decide (97 ≤ n) = false := decide_eq_false (by omega)
        first | have f2 : decide (n ≤ 122) = true := decide_eq_true (by omega) | have f2 : decide (n ≤ 122) = false := decide_eq_false (by omega)
        first | have f3 : decide (65 ≤ n) = true := decide_eq_true (by omega) | have f3 : decide (65 ≤ n) = false := decide_eq_false (by omega)
        first | have f4 : decide (n ≤ 90) = true := decide_eq_true (by omega) | have f4 : decide (n ≤ 90) = false := decide_eq_false (by omega)
        first | have f5 : decide (48 ≤ n) = true := decide_eq_true (by omega) | have f5 : decide (48 ≤ n) = false := decide_eq_false (by omega)
        first | have f6 : decide (n ≤ 57) = true := decide_eq_true (by omega) | have f6 : decide (n ≤ 57) = false := decide_eq_false (by omega)
        first | have f7 : decide (n = 45) = true := decide_eq_true (by omega) | have f7 : decide (n = 45) = false := decide_eq_false (by omega)
        first | have f8 : decide (n = 95) = true := decide_eq_true (by omega) | have f8 : decide (n = 95) = false := decide_eq_false (by omega)
        rw [f1, f2, f3, f4, f5, f6, f7, f8] at hk
        simp only [Bool.and_true, Bool.and_false, Bool.or_true, Bool.or_false] at hk
        clear h
        simp only [b_gkeyed_0, r_gkeyed, c1, hat, f1, f2, f3, f4, f5, f6, f7, f8, Int.toNat_natCast, go_sem, Nat.reduceDiv, Nat.reduceMod, ↓reduceIte])
      all_goals first | exact ⟨⟨by omega, by omega⟩, hil, ⟨by omega, by omega⟩, hR _ (i + 1) ⟨hil, hnext hk⟩ (by omega) rfl⟩ | exact ⟨⟨by omega, by omega⟩, hil, by rw [hbad hk]⟩
    · have c1 : decide ((i : Int) < (s.length : Int)) = false := decide_eq_false (by omega)
      rw [List.take_of_length_le (by omega)] at i2
      have hl2 : decide ((s.length : Int) ≤ 100) = decide (s.length ≤ 100) := by rw [Bool.eq_iff_iff]; simp; omega
      have hkb : keyedB s = (!decide (s = []) && decide (s.length ≤ 100)) := by unfold keyedB; rw [i2, Bool.and_true]; simp
      rw [hkb]
      cases h1 : decide (s = []) with
      | true =>
        simp only [b_gkeyed_0, t_gkeyed_0, r_gkeyed, c1, h1, Bool.not_true, Bool.false_and, go_sem, Nat.reduceDiv, Nat.reduceMod, ↓reduceIte]
      | false =>
        simp only [b_gkeyed_0, t_gkeyed_0, r_gkeyed, c1, h1, hl2, Bool.not_false, Bool.true_and, go_sem, Nat.reduceDiv, Nat.reduceMod, ↓reduceIte]
  · cases hs
def gtoldS : Spec := fun xs hp => match xs, hp with
  | [.str s], [] => some ⟨.str (tolL s), [], s.length ≤ 100000000⟩
  | _, _ => none
theorem tol_take (s : List UInt8) {i : Nat} (h : i < s.length) : tolL (s.take (i + 1)) = tolL (s.take i) ++ escC s[i] := by
  unfold tolL
  rw [List.take_add_one, List.getElem?_eq_getElem h, Option.toList_some, List.flatMap_append, List.flatMap_cons, List.flatMap_nil, List.append_nil]
theorem tol_len (s : List UInt8) : (tolL s).length ≤ 2 * s.length := by
  unfold tolL
  induction s with
  | nil => simp
  | cons c s ih =>
    rw [List.flatMap_cons, List.length_append, List.length_cons]
    have : (escC c).length ≤ 2 := by unfold escC; repeat' split
                                     all_goals simp
    omega
theorem tol_take_len (s : List UInt8) (i : Nat) : (tolL (s.take i)).length ≤ 2 * s.length := by
  have h1 := tol_len (s.take i)
  rw [List.length_take] at h1; omega
def bldX (i : Nat) : AV := if i = 0 then .con (.pointer none) else .ref 0 0 0
theorem bldX_or (i : Nat) : bldX i = .con (.pointer none) ∨ bldX i = .ref 0 0 0 := by
  unfold bldX; split
  · exact .inl rfl
  · exact .inr rfl
def phiB : Phi := phiL [(50, [], bwsS), (80, [], bwbS), (53, [], bstrS)]
theorem phiB_ok : PhiOk Tryz.prog phiB := phi_cons bws_ok (by kernel_rfl) (phi_cons bwb_ok (by kernel_rfl) (phi_cons bstr_ok (by kernel_rfl) phi_nil))
theorem phiB_1 : phiB 50 = some ([], bwsS) := rfl
theorem phiB_2 : phiB 80 = some ([], bwbS) := rfl
theorem phiB_3 : phiB 53 = some ([], bstrS) := rfl
set_option maxHeartbeats 2000000 in
theorem gtold_ok : FnOk Tryz.prog 63 gtoldS := by
  refine fn_slim2 Tryz.func63 s_gtold phiB_ok ?_
  intro xs hp r hs hp'
  unfold gtoldS at hs
  split at hs
  · injection hs with hs; subst hs
    rename_i s
    have p1 : s.length ≤ 100000000 := hp'
    refine ⟨len_le (by kernel_rfl), ?_⟩
    simp only [c_gtold, go_sem, Nat.reduceDiv, Nat.reduceMod, ↓reduceIte, Nat.reduceAdd]
    refine ⟨by (first | omega | (simp only [lenOk]; omega)), ?_⟩
    refine loop2P [(4097, 5, 1)] [0, 3, 7, 8, 9] [0, 1, 2] (fun i : Nat => ⟨[(0, .str s), (3, .ref 0 0 0), (7, .own 1 0), (8, .int .i64 (s.length : Int)), (9, .int .i64 (i : Int))],
      [.cells 97 [(1, bldX i), (1, .own 2 i)], .row 5 1 0 (Bs s), .row 5 1 i (Bs (tolL (s.take i)))]⟩)
      (fun i => i ≤ s.length) (fun i => s.length - i) 0 (by rfl) (Nat.zero_le _) ⟨rfl, by rfl⟩ (fun i hi R hR => ?_)
    have hX0 : selfX (.con (.pointer none)) = true := rfl
    have hX1 : selfX (.ref 0 0 0) = true := rfl
    by_cases hil : i < s.length
    · have c1 : decide ((i : Int) < (s.length : Int)) = true := decide_eq_true (by omega)
      have hga : s.getD i 0 = s[i] := by simp [List.getD_eq_getElem?_getD, List.getElem?_eq_getElem hil]
      have htk := tol_take s hil
      have htl := tol_take_len s i
      have htl2 := tol_take_len s (i + 1)
      have hb1 : bldX (i + 1) = .ref 0 0 0 := rfl
      generalize hc : s[i] = c at *
      have hcn : ∀ k : UInt8, decide (((c.toNat : Nat) : Int) = ((k.toNat : Nat) : Int)) = decide (c = k) := fun k => by
        rw [Bool.eq_iff_iff, decide_eq_true_eq, decide_eq_true_eq]
        constructor
        · intro h; exact UInt8.toNat_inj.1 (by omega)
        · rintro rfl; rfl
      have g1 := hcn 92
      have g2 := hcn 10
      have g3 := hcn 13
      have g4 := hcn 0
      have g1 : decide (((c.toNat : Nat) : Int) = 92) = decide (c = 92) := g1
      have g2 : decide (((c.toNat : Nat) : Int) = 10) = decide (c = 10) := g2
      have g3 : decide (((c.toNat : Nat) : Int) = 13) = decide (c = 13) := g3
      have g4 : decide (((c.toNat : Nat) : Int) = 0) = decide (c = 0) := g4
      have fin : ∀ e : List UInt8, escC c = e → tolL (s.take (i + 1)) = tolL (s.take i) ++ e := fun e he => by rw [htk, he]
      rcases bldX_or i with hbi | hbi
      all_goals (
        by_cases h1 : c = 92
        · have d1 : decide (c = 92) = true := decide_eq_true h1
          have e := fin [92, 92] (by rw [h1]; rfl)
          simp only [b_gtold_0, hbi, c1, hga, g1, d1, phiB_1, bwsS, hX0, hX1, Int.toNat_natCast, go_sem, Nat.reduceDiv, Nat.reduceMod, ↓reduceIte, Nat.reduceBEq, Nat.reduceLT, Nat.reduceAdd, reduceCtorEq]
          exact ⟨⟨by omega, by omega⟩, hil, by (first | omega | (simp only [bytesOk]; omega)), ⟨by omega, by omega⟩, hR _ (i + 1) hil (by omega) (by simp only [hb1, e, ← Bs_app]; rfl)⟩
        have d1 : decide (c = 92) = false := decide_eq_false h1
        by_cases h2 : c = 10
        · have d2 : decide (c = 10) = true := decide_eq_true h2
          have e := fin [92, 110] (by rw [h2]; rfl)
          simp only [b_gtold_0, hbi, c1, hga, g1, d1, g2, d2, phiB_1, bwsS, hX0, hX1, Int.toNat_natCast, go_sem, Nat.reduceDiv, Nat.reduceMod, ↓reduceIte, Nat.reduceBEq, Nat.reduceLT, Nat.reduceAdd, reduceCtorEq]
          exact ⟨⟨by omega, by omega⟩, hil, by (first | omega | (simp only [bytesOk]; omega)), ⟨by omega, by omega⟩, hR _ (i + 1) hil (by omega) (by simp only [hb1, e, ← Bs_app]; rfl)⟩
        have d2 : decide (c = 10) = false := decide_eq_false h2
        by_cases h3 : c = 13
        · have d3 : decide (c = 13) = true := decide_eq_true h3
          have e := fin [92, 114] (by rw [h3]; rfl)
          simp only [b_gtold_0, hbi, c1, hga, g1, d1, g2, d2, g3, d3, phiB_1, bwsS, hX0, hX1, Int.toNat_natCast, go_sem, Nat.reduceDiv, Nat.reduceMod, ↓reduceIte, Nat.reduceBEq, Nat.reduceLT, Nat.reduceAdd, reduceCtorEq]
          exact ⟨⟨by omega, by omega⟩, hil, by (first | omega | (simp only [bytesOk]; omega)), ⟨by omega, by omega⟩, hR _ (i + 1) hil (by omega) (by simp only [hb1, e, ← Bs_app]; rfl)⟩
        have d3 : decide (c = 13) = false := decide_eq_false h3
        by_cases h4 : c = 0
        · have d4 : decide (c = 0) = true := decide_eq_true h4
          have e := fin [92, 48] (by rw [h4]; rfl)
          simp only [b_gtold_0, hbi, c1, hga, g1, d1, g2, d2, g3, d3, g4, d4, phiB_1, bwsS, hX0, hX1, Int.toNat_natCast, go_sem, Nat.reduceDiv, Nat.reduceMod, ↓reduceIte, Nat.reduceBEq, Nat.reduceLT, Nat.reduceAdd, reduceCtorEq]
          exact ⟨⟨by omega, by omega⟩, hil, by (first | omega | (simp only [bytesOk]; omega)), ⟨by omega, by omega⟩, hR _ (i + 1) hil (by omega) (by simp only [hb1, e, ← Bs_app]; rfl)⟩
        have d4 : decide (c = 0) = false := decide_eq_false h4
        have e := fin [c] (by unfold escC; rw [if_neg h1, if_neg h2, if_neg h3, if_neg h4])
        simp only [b_gtold_0, hbi, c1, hga, g1, d1, g2, d2, g3, d3, g4, d4, phiB_2, bwbS, hX0, hX1, Int.toNat_natCast, go_sem, Nat.reduceDiv, Nat.reduceMod, ↓reduceIte, Nat.reduceBEq, Nat.reduceLT, Nat.reduceAdd, reduceCtorEq]
        exact ⟨⟨by omega, by omega⟩, hil, by (first | omega | (simp only [bytesOk]; omega)), ⟨by omega, by omega⟩, hR _ (i + 1) hil (by omega) (by simp only [hb1, e, ← Bs_push]; rfl)⟩)
    · have c1 : decide ((i : Int) < (s.length : Int)) = false := decide_eq_false (by omega)
      obtain rfl : i = s.length := by omega
      rw [List.take_length]
      rcases bldX_or s.length with hbi | hbi
      all_goals simp only [b_gtold_0, t_gtold_0, r_gtold, hbi, c1, phiB_3, bstrS, unB_Bs, go_sem, Nat.reduceDiv, Nat.reduceMod, ↓reduceIte, Nat.reduceBEq, Nat.reduceLT, Nat.reduceAdd, reduceCtorEq]
  · cases hs
end Go.Proofs.YtgaehhechonegaaGreatDoor
namespace Go.Proofs.YtgaehhechonegaaGreatDoor
set_option linter.all false
open Go.RowKit
end Go.Proofs.YtgaehhechonegaaGreatDoor
namespace Go.Proofs.YtgaehhechonegaaGreatDoor
set_option linter.all false
open Go.RowKit
open Go.Lib (index hasPrefix trimPrefix cut indexAny)
def cutPreS : Spec := fun xs hp => match xs, hp with
  | [.str s, .str p], [] => some ⟨.tup [.str (trimPrefix s p), .bool (hasPrefix s p)], [], True⟩
  | _, _ => none
theorem cutPre_ok : FnOk Tryz.prog 105 cutPreS := by
  refine fnok_of_calls fun xs0 hp r hs hp' => ?_
  unfold cutPreS at hs
  split at hs
  · rename_i s p
    injection hs with hs; subst hs
    refine ⟨rfl, rfl, fun w S ρ args hS ha => ?_⟩
    obtain ⟨v, vs, rfl, hv, hr⟩ := ha.get _ _ rfl
    obtain ⟨u, us, rfl, hu, hr⟩ := hr.get _ _ rfl
    obtain rfl := hr.none
    rw [hv.str, hu.str]
    refine (Tryz.strings_CutPrefix ⟨s.toArray⟩ ⟨p.toArray⟩ w).mono ?_
    rintro e w' ⟨rfl, rfl⟩
    exact ⟨_, rfl, Below.refl _ _, fun _ _ _ => Vl.tup2 (Vl.str' _) (Vl.bool' _)⟩
  · cases hs
end Go.Proofs.YtgaehhechonegaaGreatDoor
namespace Go.Proofs.YtgaehhechonegaaGreatDoor
set_option linter.all false
open Go.RowKit
open Go.Lib (index hasPrefix trimPrefix cut indexAny)
theorem css_strs {w : World} {S : Nat → Prop} {ρ : Rho} : ∀ ps : List (List UInt8), Css w S ρ (prs 1 (ps.map AV.str)) (ps.map fun l => Value.string ⟨l.toArray⟩)
  | [] => rfl
  | l :: ps => ⟨[_], _, rfl, rfl, .str l, css_strs ps⟩
def splitS : Spec := fun xs hp => match xs, hp with
  | [.str s, .str [c]], [] => some ⟨.own 0 0, [.row 9 1 0 ((psl c s).map AV.str)], s.length < 4294967281⟩
  | _, _ => none
theorem split_ok : FnOk Tryz.prog 109 splitS := by
  refine fnok_row fun xs0 hp r hs hp' => ?_
  unfold splitS at hs
  split at hs
  · rename_i s c
    injection hs with hs; subst hs
    refine ⟨rfl, _, _, _, rfl, rfl, fun w S ρ args hS ha => ?_⟩
    obtain ⟨m, hm⟩ := maxLen_cell ha.glob
    obtain ⟨v, vs, rfl, hv, hr⟩ := ha.get _ _ rfl
    obtain ⟨u, us, rfl, hu, hr⟩ := hr.get _ _ rfl
    obtain rfl := hr.none
    rw [hv.str, hu.str]
    refine (Tryz.strings_Split ⟨s.toArray⟩ ⟨[c].toArray⟩ m w (by rw [Lib.size_eq]; exact hp') hm (Nat.le_refl 1)).mono ?_
    rintro e w' ⟨rfl, rfl⟩
    have e1 : (Lib.splitB ⟨[c].toArray⟩ 0 (Lib.countB ⟨s.toArray⟩ ⟨[c].toArray⟩) ⟨s.toArray⟩).map (·.data.toList) = psl c s := by
      rw [Lib.splitB_data]; exact splitK_psl c s
    obtain ⟨X, hX⟩ : ∃ X, Lib.splitB ⟨[c].toArray⟩ 0 (Lib.countB ⟨s.toArray⟩ ⟨[c].toArray⟩) ⟨s.toArray⟩ = X := ⟨_, rfl⟩
    have e2 : X.length = Lib.countB ⟨s.toArray⟩ ⟨[c].toArray⟩ + 1 := by rw [← hX]; exact Lib.splitB_all ⟨[c].toArray⟩ (Nat.le_refl 1) 0 _ _ rfl
    rw [hX] at e1
    have e3 : X.map Value.string = (psl c s).map fun l => Value.string ⟨l.toArray⟩ := by
      rw [← e1, List.map_map]
      refine List.map_congr_left fun x _ => ?_
      simp only [Function.comp_apply, of_bs]
    have e4 : (psl c s).length = Lib.countB ⟨s.toArray⟩ ⟨[c].toArray⟩ + 1 := by rw [← e1, List.length_map, e2]
    have e5 := psl_join_len c s
    have hp2 : s.length < 4294967281 := hp'
    rw [hX, e3, ← e4]
    refine ⟨w.heap.size, _, _, _, ((psl c s).map fun l => Value.string ⟨l.toArray⟩).toArray, (0, 0), rfl, (Below.refl _ _).alloc (Nat.le_refl _) _, Nat.le_refl _, ?_, .inl rfl, Nat.le_refl _, by omega, by simp, ?_, by simp, by simp, css_strs _⟩
    · show (w.heap.push (Obj.cells _ _ _))[w.heap.size]? = _
      simp
    · rw [List.take_of_length_le (by simp)]
  · cases hs
end Go.Proofs.YtgaehhechonegaaGreatDoor
namespace Go.Proofs.YtgaehhechonegaaGreatDoor
set_option linter.all false
open Go.RowKit
open Go.Lib (index hasPrefix trimPrefix cut indexAny itoa)
theorem pre_head (s : List UInt8) : hasPrefix s [45] = decide (s.head? = some 45) := by
  cases s with
  | nil => rfl
  | cons c t =>
    show (([45] : List UInt8).isPrefixOf (c :: t)) = _
    rw [Bool.eq_iff_iff]; simp [List.isPrefixOf]
    exact eq_comm
end Go.Proofs.YtgaehhechonegaaGreatDoor
namespace Go.Proofs.YtgaehhechonegaaGreatDoor
set_option linter.all false
open Go.RowKit
open Go.Lib (index hasPrefix trimPrefix cut indexAny)
def idxAny3S : Spec := fun xs hp => match xs, hp with
  | [.str s, .str p], [] => some ⟨.int .i64 (indexAny s p), [], p = [0, 10, 13] ∧ s.length < 4294967281⟩
  | _, _ => none
theorem idxAny3_ok : FnOk Tryz.prog 98 idxAny3S := by
  refine idxAny_ok.imp fun xs hp r hs hp' => ?_
  unfold idxAny3S at hs
  split at hs
  · injection hs with hs; subst hs
    obtain ⟨rfl, p2⟩ := hp'
    exact ⟨_, rfl, ⟨by decide, p2⟩, rfl, rfl⟩
  · cases hs
end Go.Proofs.YtgaehhechonegaaGreatDoor
namespace Go.Proofs.YtgaehhechonegaaGreatDoor
set_option linter.all false
open Go.RowKit
open Go.Lib (indexAny)
def c_nrightc : ACode := (.seq (.reg none [⟨(some 2), (.mv (.c (.bool false))), none⟩]) (.seq (.reg none [⟨(some 3), (.mv (.t 0)), none⟩, ⟨(some 4), (.bin .eql (.t 3) (.c (.str []))), none⟩, ⟨(some 5), (.mv (.t 4)), none⟩, ⟨(some 6), (.mv (.t 0)), (some (5, false))⟩, ⟨(some 7), (.bin .eql (.t 6) (.c (.str [46]))), (some (5, false))⟩, ⟨(some 8), (.pick (.t 5) (.c (.bool true)) (.t 7)), none⟩, ⟨(some 9), (.mv (.t 8)), none⟩, ⟨(some 10), (.mv (.t 0)), (some (9, false))⟩, ⟨(some 11), (.bin .eql (.t 10) (.c (.str [46, 46]))), (some (9, false))⟩, ⟨(some 12), (.pick (.t 9) (.c (.bool true)) (.t 11)), none⟩, ⟨(some 2), (.mv (.t 12)), none⟩]) .ret))
def r_nrightc : List ARes := [(.t 2)]
theorem s_nrightc : slimF Tryz.prog Tryz.f110 = some (c_nrightc, r_nrightc) := by kernel_rfl
def badS : Spec := fun xs hp => match xs, hp with
  | [.str q], [] => some ⟨.bool (badP q), [], True⟩
  | _, _ => none
theorem bad_ok : FnOk Tryz.prog 110 badS := by
  refine fn_slim2 Tryz.func110 s_nrightc (Φ := phiL []) phi_nil ?_
  intro xs hp r hs hp'
  unfold badS at hs
  split at hs
  · injection hs with hs; subst hs
    rename_i q
    refine ⟨len_le (by kernel_rfl), ?_⟩
    rcases Classical.em (q = []) with h0 | h0
    · subst h0
      simp only [c_nrightc, r_nrightc, decide_true, go_sem, Nat.reduceDiv, Nat.reduceMod, ↓reduceIte]
      simp [badP]
    · have d0 : decide (q = []) = false := decide_eq_false h0
      rcases Classical.em (q = [46]) with h1 | h1
      · have d1 : decide (q = [46]) = true := decide_eq_true h1
        simp only [c_nrightc, r_nrightc, d0, d1, go_sem, Nat.reduceDiv, Nat.reduceMod, ↓reduceIte]
        simp [badP, d0, d1]
      · have d1 : decide (q = [46]) = false := decide_eq_false h1
        have e : badP q = decide (q = [46, 46]) := by unfold badP; rw [d0, d1]; rfl
        simp only [c_nrightc, r_nrightc, d0, d1, e, go_sem, Nat.reduceDiv, Nat.reduceMod, ↓reduceIte]
  · cases hs
def b_ifs_0 : ACode := (.seq (.reg none [⟨(some 9), (.bin .lss (.t 8) (.t 7)), none⟩]) (.seq (.cond (.t 9) .skip (.exit 0)) (.seq (.block 1 (.seq (.reg none [⟨(some 10), (.mv (.t 8)), none⟩, ⟨(some 5), (.mv (.t 10)), none⟩]) (.seq (.reg none [⟨(some 11), (.mv (.t 1)), none⟩, ⟨(some 12), (.mv (.t 0)), none⟩, ⟨(some 13), (.mv (.t 5)), none⟩, ⟨(some 14), (.ia 1 (.str []) (.t 12) (.t 13)), none⟩, ⟨(some 15), (.ld (.one (.str [])) (.t 14)), none⟩, ⟨(some 16), (.callv (.t 11) [(.t 15)]), none⟩]) (.cond (.t 16) (.seq (.reg none [⟨(some 17), (.mv (.t 5)), none⟩, ⟨(some 4), (.mv (.t 17)), none⟩]) .ret) .skip)))) (.reg none [⟨(some 18), (.bin .add (.t 8) (.c (.int .i64 1))), none⟩, ⟨(some 8), (.mv (.t 18)), none⟩]))))
def t_ifs_0 : ACode := (.seq (.reg none [⟨(some 4), (.mv (.c (.int .i64 (-1)))), none⟩]) .ret)
def c_ifs : ACode := (.seq (.reg none [⟨(some 4), (.mv (.c (.int .i64 0))), none⟩]) (.seq (.seq (.reg none [⟨(some 6), (.mv (.t 0)), none⟩, ⟨(some 7), (.len none false (.t 6)), none⟩, ⟨(some 8), (.mv (.c (.int .i64 0))), none⟩]) (.block 0 (.loop b_ifs_0))) t_ifs_0))
def r_ifs : List ARes := [(.t 4)]
theorem s_ifs : slimF Tryz.prog Tryz.f129 = some (c_ifs, r_ifs) := by kernel_rfl
def fiB (ps : List (List UInt8)) : Int := if ps.any badP then (ps.findIdx badP : Int) else -1
def ifBadS : Spec := fun xs hp => match xs, hp with
  | [.sl 1 ps, .fn (.func g) [] []], [] => some ⟨.int .i64 (fiB (ps.map unS)), [], g = 110 ∧ ps = (ps.map unS).map AV.str ∧ ps.length ≤ 1000000000000⟩
  | _, _ => none
theorem ifBad_ok : FnOk Tryz.prog 129 ifBadS := by
  refine fn_slim Tryz.func129 s_ifs (Φ := phiL [(110, [], badS)]) (phi_cons bad_ok (by kernel_rfl) phi_nil) ?_
  intro xs hp r hs hp'
  unfold ifBadS at hs
  split at hs
  · injection hs with hs; subst hs
    rename_i qs g
    refine ⟨len_le (by kernel_rfl), ?_⟩
    obtain ⟨rfl, p2, p3⟩ := hp'
    generalize qs.map unS = ps at *
    subst p2
    rw [List.length_map] at p3
    simp only [c_ifs, r_ifs, awp_reg, awp_seq, awp_block, awp_loop, arun_nil, arun_op, aq_some, thenQ_n, astep, stV, aval, slots, AV.isStr, aLen, St.ev, lk, St.put, ↓reduceIte, Option.isSome_none, Bool.or_true, beq_self_eq_true, true_and, List.length_nil, Nat.reduceAdd, reduceCtorEq, eq_self, List.length_map]
    refine loop_at [] [0, 1, 7, 8] [] (fun i : Nat => ⟨[(0, .sl 1 (ps.map AV.str)), (1, .fn (.func 110) [] []), (7, .int .i64 (ps.length : Int)), (8, .int .i64 (i : Int))], []⟩) (fun i => i ≤ ps.findIdx badP) (fun i => ps.length - i) 0 rfl (by omega) ⟨rfl, rfl⟩ (fun i hi => ?_)
    have hle := List.findIdx_le_length (xs := ps) (p := badP)
    by_cases hil : i < ps.length
    · have c1 : decide ((i : Int) < (ps.length : Int)) = true := decide_eq_true (by omega)
      have hget : (ps.map AV.str).getD i (.str []) = .str (ps.getD i []) := by
        simp [List.getD_eq_getElem?_getD, List.getElem?_map, List.getElem?_eq_getElem hil]
      have hga : ps.getD i [] = ps[i] := by simp [List.getD_eq_getElem?_getD, List.getElem?_eq_getElem hil]
      simp only [b_ifs_0, t_ifs_0, badS, c1, hget, Int.toNat_natCast, awp_skip, awp_reg, awp_seq, awp_cond, awp_block, awp_ret, arun_nil, arun_op, aq_some, isB_t, ifB_t, thenQ_n, thenQ_r, inQ_n, inQ_r, retQ_r, astep, stV, stC, aval, aret, ares, Int.toNat_natCast, pt, rdP, aBin, aInt, arI, aIa, aLd, pparts, AV.multi, St.ev, lk, St.put, acall0, acall1, acall2, acall3, bor, bor0, bor1, phiL_at, lentO, okIds, flatC, place, setAll_nil, nodupB, renObj, closeIds, addNew, idsOf, idsObj, posOf, ↓reduceIte, Nat.reduceEqDiff, List.map, List.flatMap_cons, List.flatMap_nil, true_and, List.length_nil, List.append_nil, Option.map, mapO, ren, kp, List.range, List.range.loop, List.getElem?_nil, List.drop_nil, List.all_nil, List.isEmpty_nil, Bool.and_true, Bool.not_false, List.contains_nil, reduceCtorEq, eq_self, Nat.le_refl, List.length_map, and_self]
      refine ⟨⟨by omega, by omega⟩, fun hb => ?_, fun hb => ?_⟩
      · rw [hga] at hb
        have hf : ps.findIdx badP = i := by
          have := List.not_of_lt_findIdx (xs := ps) (p := badP) (i := i)
          rcases Nat.lt_or_ge i (ps.findIdx badP) with h | h
          · exact absurd hb (by simpa using this h)
          · omega
        have hany : ps.any badP = true := List.any_eq_true.2 ⟨ps[i], List.getElem_mem _, hb⟩
        have e : fiB ps = (i : Int) := by unfold fiB; rw [hany, if_pos rfl, hf]
        simp only [e, renObj, finP, finI, closeIds, addNew, idsOf, List.flatMap_nil, List.take_zero, nodupB, posOf, idsObj, List.range, List.range.loop, ren, lentO, mapO, Option.map, and_true]
      · rw [hga] at hb
        have hf : i < ps.findIdx badP := by
          rcases Nat.lt_or_ge i (ps.findIdx badP) with h | h
          · exact h
          · have e : ps.findIdx badP = i := by omega
            have := List.findIdx_getElem (xs := ps) (p := badP) (w := by omega)
            simp only [e] at this
            rw [hb] at this; cases this
        exact ⟨by (first | omega | (simp only [inI]; omega)), i + 1, by omega, by omega, rfl⟩
    · have c1 : decide ((i : Int) < (ps.length : Int)) = false := decide_eq_false (by omega)
      have hn : ps.any badP = false := by
        rw [List.any_eq_false]
        intro x hx hb
        have := List.findIdx_lt_length_of_exists ⟨x, hx, hb⟩
        omega
      have e : fiB ps = -1 := by unfold fiB; rw [hn]; rfl
      simp only [b_ifs_0, t_ifs_0, c1, e, awp_reg, awp_seq, awp_cond, awp_exit, awp_ret, arun_nil, arun_op, aq_some, isB_f, isB_g, thenQ_n, thenQ_x, inQ_x, retQ_r, astep, stV, aval, aret, ares, aBin, aInt, St.ev, lk, St.put, lentO, renObj, posOf, ↓reduceIte, Nat.reduceEqDiff, true_and, List.length_nil, Option.map, mapO, ren, kp, List.range, List.range.loop, reduceCtorEq, eq_self]
      simp only [renObj, finP, finI, closeIds, addNew, idsOf, List.flatMap_nil, List.take_zero, nodupB, posOf, idsObj, List.range, List.range.loop, ren, lentO, mapO, Option.map, and_true]
  · cases hs
def c_cfs : ACode := (.seq (.reg none [⟨(some 4), (.mv (.c (.bool false))), none⟩]) (.seq (.reg none [⟨(some 5), (.mv (.t 0)), none⟩, ⟨(some 6), (.mv (.t 1)), none⟩, ⟨(some 7), (.call 129 [(.t 5), (.t 6)]), none⟩, ⟨(some 8), (.bin .geq (.t 7) (.c (.int .i64 0))), none⟩, ⟨(some 4), (.mv (.t 8)), none⟩]) .ret))
def r_cfs : List ARes := [(.t 4)]
theorem s_cfs : slimF Tryz.prog Tryz.f108 = some (c_cfs, r_cfs) := by kernel_rfl
theorem fiB_nn (ps : List (List UInt8)) : decide (0 ≤ fiB ps) = ps.any badP := by
  unfold fiB
  cases ps.any badP with
  | true => simp
  | false => rfl
def cfBadS : Spec := fun xs hp => match xs, hp with
  | [.sl 1 ps, .fn (.func g) [] []], [] => some ⟨.bool ((ps.map unS).any badP), [], g = 110 ∧ ps = (ps.map unS).map AV.str ∧ ps.length ≤ 1000000000000⟩
  | _, _ => none
theorem cfBad_ok : FnOk Tryz.prog 108 cfBadS := by
  refine fn_slim2 Tryz.func108 s_cfs (Φ := phiL [(129, [], ifBadS)]) (phi_cons ifBad_ok (by kernel_rfl) phi_nil) ?_
  intro xs hp r hs hp'
  unfold cfBadS at hs
  split at hs
  · injection hs with hs; subst hs
    rename_i qs g
    refine ⟨len_le (by kernel_rfl), ?_⟩
    obtain ⟨rfl, p2, p3⟩ := hp'
    simp only [c_cfs, r_cfs, ifBadS, fiB_nn, go_sem, Nat.reduceDiv, Nat.reduceMod, ↓reduceIte, Nat.reduceAdd]
    exact ⟨p2, p3⟩
  · cases hs
def c_cany : ACode := (.seq (.reg none [⟨(some 4), (.mv (.c (.bool false))), none⟩]) (.seq (.reg none [⟨(some 5), (.mv (.t 0)), none⟩, ⟨(some 6), (.mv (.t 1)), none⟩, ⟨(some 7), (.call 98 [(.t 5), (.t 6)]), none⟩, ⟨(some 8), (.bin .geq (.t 7) (.c (.int .i64 0))), none⟩, ⟨(some 4), (.mv (.t 8)), none⟩]) .ret))
def r_cany : List ARes := [(.t 4)]
theorem s_cany : slimF Tryz.prog Tryz.f77 = some (c_cany, r_cany) := by kernel_rfl
theorem any3 (s : List UInt8) : (s.any fun b => b == 0 || (b == 10 || b == 13)) = s.any ctlB := by
  congr 1
  funext b
  rw [Bool.eq_iff_iff]
  simp [ctlB, or_assoc]
def cany3S : Spec := fun xs hp => match xs, hp with
  | [.str s, .str p], [] => some ⟨.bool (s.any ctlB), [], p = [0, 10, 13] ∧ s.length < 4294967281⟩
  | _, _ => none
theorem cany3_ok : FnOk Tryz.prog 77 cany3S := by
  refine fn_slim2 Tryz.func77 s_cany (Φ := phiL [(98, [], idxAny3S)]) (phi_cons idxAny3_ok (by kernel_rfl) phi_nil) ?_
  intro xs hp r hs hp'
  unfold cany3S at hs
  split at hs
  · injection hs with hs; subst hs
    rename_i s p
    refine ⟨len_le (by kernel_rfl), ?_⟩
    obtain ⟨rfl, p2⟩ := hp'
    simp only [c_cany, r_cany, idxAny3S, indexAny_nn, go_sem, Nat.reduceDiv, Nat.reduceMod, ↓reduceIte, Nat.reduceAdd]
    exact ⟨p2, by rw [any3]⟩
  · cases hs
def c_nright : ACode := (.seq (.reg none [⟨(some 2), (.mv (.c (.bool false))), none⟩]) (.seq (.seq (.reg none [⟨(some 3), (.mv (.t 0)), none⟩, ⟨(some 4), (.len none true (.t 3)), none⟩, ⟨(some 5), (.bin .gtr (.t 4) (.c (.int .i64 255))), none⟩, ⟨(some 6), (.mv (.t 5)), none⟩, ⟨(some 7), (.mv (.t 0)), (some (6, false))⟩, ⟨(some 8), (.call 77 [(.t 7), (.c (.str [0, 10, 13]))]), (some (6, false))⟩, ⟨(some 9), (.pick (.t 6) (.c (.bool true)) (.t 8)), none⟩]) (.cond (.t 9) (.seq (.reg none [⟨(some 2), (.mv (.c (.bool false))), none⟩]) .ret) .skip)) (.seq (.reg none [⟨(some 10), (.mv (.t 0)), none⟩, ⟨(some 11), (.call 109 [(.t 10), (.c (.str [47]))]), none⟩, ⟨(some 12), (.call 108 [(.t 11), (.c (.fn (.func 110) [] []))]), none⟩, ⟨(some 13), (.un .not (.t 12)), none⟩, ⟨(some 2), (.mv (.t 13)), none⟩]) .ret)))
def r_nright : List ARes := [(.t 2)]
theorem s_nright : slimF Tryz.prog Tryz.f88 = some (c_nright, r_nright) := by kernel_rfl
def nrightS : Spec := fun xs hp => match xs, hp with
  | [.str s], [] => some ⟨.bool (rightP s), [], s.length ≤ 1000000000⟩
  | _, _ => none
theorem nright_ok : FnOk Tryz.prog 88 nrightS := by
  refine fn_slim2 Tryz.func88 s_nright (Φ := phiL [(77, [], cany3S), (109, [], splitS), (108, [], cfBadS)]) (phi_cons cany3_ok (by kernel_rfl) (phi_cons split_ok (by kernel_rfl) (phi_cons cfBad_ok (by kernel_rfl) phi_nil))) ?_
  intro xs hp r hs hp'
  unfold nrightS at hs
  split at hs
  · injection hs with hs; subst hs
    rename_i s
    have hp2 : s.length ≤ 1000000000 := hp'
    refine ⟨len_le (by kernel_rfl), ?_⟩
    have hlen := psl_join_len 47 s
    by_cases h1 : 255 < s.length
    · have d1 : decide ((255 : Int) < (s.length : Int)) = true := decide_eq_true (by omega)
      have e : rightP s = false := by unfold rightP; rw [decide_eq_true h1]; rfl
      simp only [c_nright, r_nright, d1, e, go_sem, Nat.reduceDiv, Nat.reduceMod, ↓reduceIte]
    · have d1 : decide ((255 : Int) < (s.length : Int)) = false := decide_eq_false (by omega)
      cases hc : s.any ctlB with
      | true =>
        have e : rightP s = false := by unfold rightP; rw [hc]; simp
        simp only [c_nright, r_nright, cany3S, d1, e, hc, go_sem, Nat.reduceDiv, Nat.reduceMod, ↓reduceIte]
        omega
      | false =>
        have e : rightP s = !(psl 47 s).any badP := by unfold rightP; rw [hc, decide_eq_false h1]; simp
        simp only [c_nright, r_nright, cany3S, splitS, cfBadS, d1, e, hc, unS_map, go_sem, Nat.reduceDiv, Nat.reduceMod, ↓reduceIte, Nat.reduceEqDiff, Nat.reduceSub, Nat.reduceLT, Nat.reduceAdd, Nat.reduceLeDiff]
        exact ⟨by omega, by omega⟩
  · cases hs
end Go.Proofs.YtgaehhechonegaaGreatDoor
namespace Go.Proofs.YtgaehhechonegaaGreatDoor
set_option linter.all false
open Go.RowKit
open Go.Lib (index hasPrefix trimPrefix cut indexAny itoa)
theorem ascB_snoc : ∀ (l : List (List UInt8)) (x : List UInt8), ascB (l ++ [x]) = (ascB l && (l.getLast?.all fun y => Op.bytesLess y x))
  | [], x => rfl
  | [a], x => by simp [ascB]
  | a :: b :: r, x => by
    have ih := ascB_snoc (b :: r) x
    rw [List.cons_append, List.cons_append, ascB, ← List.cons_append, ih, ascB, Bool.and_assoc]
    simp
theorem ascB_take : ∀ (l : List (List UInt8)) (k : Nat), ascB l = true → ascB (l.take k) = true
  | [], k, h => by simp [ascB]
  | [a], k, h => by cases k <;> simp [ascB]
  | a :: b :: r, k, h => by
    rw [ascB, Bool.and_eq_true] at h
    match k with
    | 0 => rfl
    | 1 => rfl
    | k + 2 =>
      have ih := ascB_take (b :: r) (k + 1) h.2
      rw [List.take_succ_cons, List.take_succ_cons] at *
      rw [ascB, h.1, ih]; rfl
theorem asc_step (l : List (List UInt8)) {i : Nat} (h : i < l.length) : ascB (l.take (i + 1)) = (ascB (l.take i) && (decide (i = 0) || Op.bytesLess (l.getD (i - 1) []) l[i])) := by
  rw [List.take_add_one, List.getElem?_eq_getElem h, Option.toList_some, ascB_snoc]
  congr 1
  cases i with
  | zero => simp
  | succ i =>
    have : (l.take (i + 1)).getLast? = some (l.getD i []) := by
      rw [List.take_add_one, List.getElem?_eq_getElem (by omega), Option.toList_some, List.getLast?_append]
      simp [List.getD_eq_getElem?_getD, List.getElem?_eq_getElem (show i < l.length by omega)]
    rw [this]; simp
def grightS : Spec := fun xs hp => match xs, hp with
  | [.agg [(20, .blob m), (1, .str u), (1, .int .i64 t), (1, .int .i64 z), (1, .sl ke es), (1, .sl kf fs), (1, .str d)]], [] =>
    some ⟨.bool (rightH ⟨unV m, u, t, z, es.map unEx, fs.map unS, d⟩), [], es = (es.map unEx).map exV ∧ fs = (fs.map unS).map AV.str ∧ (ke = 2 ∨ es = []) ∧ (kf = 1 ∨ fs = []) ∧ es.length ≤ 1000000 ∧ fs.length ≤ 1000000 ∧
      (∀ x ∈ es.map unEx, x.1.length ≤ 1000000000) ∧ (∀ f ∈ fs.map unS, f.length ≤ 1000000000) ∧ u.length ≤ 1000000⟩
  | _, _ => none
def phiGR : Phi := phiL [(87, [], gkeyedS), (88, [], nrightS), (89, [], containsS)]
theorem phiGR_ok : PhiOk Tryz.prog phiGR := phi_cons gkeyed_ok (by kernel_rfl) (phi_cons nright_ok (by kernel_rfl) (phi_cons contains_ok (by kernel_rfl) phi_nil))
theorem phiGR_1 : phiGR 87 = some ([], gkeyedS) := rfl
theorem phiGR_2 : phiGR 88 = some ([], nrightS) := rfl
theorem phiGR_3 : phiGR 89 = some ([], containsS) := rfl
set_option maxHeartbeats 4000000 in
theorem gright_ok : FnOk Tryz.prog 61 grightS := by
  refine fn_slim2 Tryz.func61 s_gright phiGR_ok ?_
  intro xs hp r hs hp'
  unfold grightS at hs
  split at hs
  · injection hs with hs; subst hs
    rename_i m u t z ke es kf fs d
    obtain ⟨q1, q2, q3, q4, q5, q6, q7, q8, q9⟩ := hp'
    generalize unV m = m1 at *
    generalize es.map unEx = es at *
    subst q1
    generalize fs.map unS = fs at *
    subst q2
    rw [List.length_map] at q5 q6
    refine ⟨len_le (by kernel_rfl), ?_⟩
    have bad1 : (es.all fun x => keyedB x.1) = false → rightH ⟨m1, u, t, z, es, fs, d⟩ = false := fun h => by unfold rightH; simp only [h, Bool.and_false, Bool.false_and]
    have bad2 : ascB (es.map Prod.fst) = false → rightH ⟨m1, u, t, z, es, fs, d⟩ = false := fun h => by unfold rightH; simp only [h, Bool.and_false, Bool.false_and]
    have bad3 : fs.all rightP = false → rightH ⟨m1, u, t, z, es, fs, d⟩ = false := fun h => by unfold rightH; simp only [h, Bool.and_false, Bool.false_and]
    have bad4 : ascB fs = false → rightH ⟨m1, u, t, z, es, fs, d⟩ = false := fun h => by unfold rightH; simp only [h, Bool.and_false]
    simp only [c_gright, go_sem, Nat.reduceDiv, Nat.reduceMod, ↓reduceIte, Nat.reduceSub, Nat.reduceAdd, Nat.reduceLeDiff, reduceCtorEq]
    refine loop2P [] [1, 8, 9, 10] [0] (fun i : Nat => ⟨[(1, .ref 0 0 0), (8, .sl ke (es.map exV)), (9, .int .i64 (es.length : Int)), (10, .int .i64 (i : Int))], [.cells 40 [(20, .blob m), (1, .str u), (1, .int .i64 t), (1, .int .i64 z), (1, .sl ke (es.map exV)), (1, .sl kf (fs.map AV.str)), (1, .str d)]]⟩)
      (fun i => i ≤ es.length ∧ ((es.take i).all fun x => keyedB x.1) = true ∧ ascB ((es.map Prod.fst).take i) = true) (fun i => es.length - i) 0 (by rfl) ⟨Nat.zero_le _, by simp, by simp [ascB]⟩ ⟨rfl, by rfl⟩ (fun i hi R hR => ?_)
    obtain ⟨i1, i2, i3⟩ := hi
    by_cases hil : i < es.length
    · have c1 : decide ((i : Int) < (es.length : Int)) = true := decide_eq_true (by omega)
      have hk : ke = 2 := q3.resolve_right (by intro h; have := congrArg List.length h; simp at this; rw [this] at hil; simp at hil)
      have hz : (AV.agg [(1, AV.str []), (1, AV.str [])]) = exV ([], []) := rfl
      have hget := getD_map exV es ([], []) (AV.agg [(1, AV.str []), (1, AV.str [])]) hil
      have hga : es.getD i ([], []) = es[i] := by simp [List.getD_eq_getElem?_getD, List.getElem?_eq_getElem hil]
      have hlen := q7 es[i] (List.getElem_mem _)
      have hst := asc_step (es.map Prod.fst) (i := i) (by rw [List.length_map]; exact hil)
      rw [List.getElem_map] at hst
      have htk : (es.take (i + 1)).all (fun x => keyedB x.1) = keyedB es[i].1 := by
        rw [List.take_add_one, List.getElem?_eq_getElem hil, Option.toList_some, List.all_append, i2]; simp
      have hmem : es[i] ∈ es := List.getElem_mem _
      have hall : keyedB es[i].1 = false → (es.all fun x => keyedB x.1) = false := fun h => List.all_eq_false.2 ⟨es[i], hmem, by rw [h]; simp⟩
      have hasc : ascB ((es.map Prod.fst).take (i + 1)) = false → ascB (es.map Prod.fst) = false := fun h => by
        cases hh : ascB (es.map Prod.fst) with
        | false => rfl
        | true => rw [ascB_take _ (i + 1) hh] at h; cases h
      rw [i3, Bool.true_and] at hst
      subst hk
      generalize hx : es[i] = x at *
      cases h1 : keyedB x.1 with
      | false =>
        rw [bad1 (hall h1)]
        simp only [b_gright_0, r_gright, c1, hget, hga, exV, h1, phiGR_1, gkeyedS, Int.toNat_natCast, List.length_map, go_sem, Nat.reduceDiv, Nat.reduceMod, ↓reduceIte, Nat.reduceSub, Nat.reduceAdd, Nat.reduceLeDiff, reduceCtorEq]
        exact ⟨⟨by omega, by omega⟩, hlen⟩
      | true =>
        rw [h1] at htk
        by_cases h0 : i = 0
        · have d0 : decide (0 < (i : Int)) = false := decide_eq_false (by omega)
          rw [decide_eq_true h0, Bool.true_or] at hst
          simp only [b_gright_0, r_gright, c1, d0, hget, hga, exV, h1, phiGR_1, gkeyedS, Int.toNat_natCast, List.length_map, go_sem, Nat.reduceDiv, Nat.reduceMod, ↓reduceIte, Nat.reduceSub, Nat.reduceAdd, Nat.reduceLeDiff, reduceCtorEq]
          exact ⟨⟨by omega, by omega⟩, hlen, ⟨by omega, by omega⟩, hR _ (i + 1) ⟨hil, htk, hst⟩ (by omega) rfl⟩
        · have d0 : decide (0 < (i : Int)) = true := decide_eq_true (by omega)
          rw [decide_eq_false h0, Bool.false_or] at hst
          have e1 : ((i : Int) - 1).toNat = i - 1 := by omega
          have hget1 := getD_map exV es ([], []) (AV.agg [(1, AV.str []), (1, AV.str [])]) (show i - 1 < es.length by omega)
          have hkg : (es.map Prod.fst).getD (i - 1) [] = (es.getD (i - 1) ([], [])).1 := by
            simp [List.getD_eq_getElem?_getD, List.getElem?_eq_getElem (show i - 1 < es.length by omega)]
          rw [hkg] at hst
          cases h2 : Op.bytesLess (es.getD (i - 1) ([], [])).1 x.1 with
          | true =>
            rw [h2] at hst
            simp only [b_gright_0, r_gright, c1, d0, e1, hget, hget1, hga, exV, h1, h2, phiGR_1, gkeyedS, Int.toNat_natCast, List.length_map, go_sem, Nat.reduceDiv, Nat.reduceMod, ↓reduceIte, Nat.reduceSub, Nat.reduceAdd, Nat.reduceLeDiff, reduceCtorEq]
            exact ⟨⟨by omega, by omega⟩, hlen, ⟨by omega, by omega⟩, ⟨by omega, by omega⟩, ⟨by omega, by omega⟩, hR _ (i + 1) ⟨hil, htk, hst⟩ (by omega) rfl⟩
          | false =>
            rw [h2] at hst
            rw [bad2 (hasc hst)]
            simp only [b_gright_0, r_gright, c1, d0, e1, hget, hget1, hga, exV, h1, h2, phiGR_1, gkeyedS, Int.toNat_natCast, List.length_map, go_sem, Nat.reduceDiv, Nat.reduceMod, ↓reduceIte, Nat.reduceSub, Nat.reduceAdd, Nat.reduceLeDiff, reduceCtorEq]
            exact ⟨⟨by omega, by omega⟩, hlen, ⟨by omega, by omega⟩, by omega, by omega⟩
    · have c1 : decide ((i : Int) < (es.length : Int)) = false := decide_eq_false (by omega)
      rw [List.take_of_length_le (by omega)] at i2
      rw [List.take_of_length_le (by rw [List.length_map]; omega)] at i3
      simp only [b_gright_0, t_gright_1, c1, go_sem, Nat.reduceDiv, Nat.reduceMod, ↓reduceIte, Nat.reduceSub, Nat.reduceAdd, Nat.reduceLeDiff, reduceCtorEq]
      refine loop2P [] [1, 37, 38, 39] [0] (fun j : Nat => ⟨[(1, .ref 0 0 0), (37, .sl kf (fs.map AV.str)), (38, .int .i64 (fs.length : Int)), (39, .int .i64 (j : Int))], [.cells 40 [(20, .blob m), (1, .str u), (1, .int .i64 t), (1, .int .i64 z), (1, .sl ke (es.map exV)), (1, .sl kf (fs.map AV.str)), (1, .str d)]]⟩)
        (fun j => j ≤ fs.length ∧ (fs.take j).all rightP = true ∧ ascB (fs.take j) = true) (fun j => fs.length - j) 0 (by rfl) ⟨Nat.zero_le _, by simp, by simp [ascB]⟩ ⟨rfl, by rfl⟩ (fun j hj R2 hR2 => ?_)
      obtain ⟨j1, j2, j3⟩ := hj
      by_cases hjl : j < fs.length
      · have d1 : decide ((j : Int) < (fs.length : Int)) = true := decide_eq_true (by omega)
        have hk : kf = 1 := q4.resolve_right (by intro h; have := congrArg List.length h; simp at this; rw [this] at hjl; simp at hjl)
        have hget := getD_map AV.str fs [] (AV.str []) hjl
        have hga : fs.getD j [] = fs[j] := by simp [List.getD_eq_getElem?_getD, List.getElem?_eq_getElem hjl]
        have hlen := q8 fs[j] (List.getElem_mem _)
        have hst := asc_step fs hjl
        have htk : (fs.take (j + 1)).all rightP = rightP fs[j] := by
          rw [List.take_add_one, List.getElem?_eq_getElem hjl, Option.toList_some, List.all_append, j2]; simp
        have hmem : fs[j] ∈ fs := List.getElem_mem _
        have hall : rightP fs[j] = false → fs.all rightP = false := fun h => List.all_eq_false.2 ⟨fs[j], hmem, by rw [h]; simp⟩
        have hasc : ascB (fs.take (j + 1)) = false → ascB fs = false := fun h => by
          cases hh : ascB fs with
          | false => rfl
          | true => rw [ascB_take _ (j + 1) hh] at h; cases h
        rw [j3, Bool.true_and] at hst
        subst hk
        generalize hx : fs[j] = x at *
        cases h1 : rightP x with
        | false =>
          rw [bad3 (hall h1)]
          simp only [b_gright_1, r_gright, d1, hget, hga, h1, phiGR_2, nrightS, Int.toNat_natCast, List.length_map, go_sem, Nat.reduceDiv, Nat.reduceMod, ↓reduceIte, Nat.reduceAdd]
          exact ⟨⟨by omega, by omega⟩, hlen⟩
        | true =>
          rw [h1] at htk
          by_cases h0 : j = 0
          · have d0 : decide (0 < (j : Int)) = false := decide_eq_false (by omega)
            rw [decide_eq_true h0, Bool.true_or] at hst
            simp only [b_gright_1, r_gright, d1, d0, hget, hga, h1, phiGR_2, nrightS, Int.toNat_natCast, List.length_map, go_sem, Nat.reduceDiv, Nat.reduceMod, ↓reduceIte, Nat.reduceAdd]
            exact ⟨⟨by omega, by omega⟩, hlen, ⟨by omega, by omega⟩, hR2 _ (j + 1) ⟨hjl, htk, hst⟩ (by omega) rfl⟩
          · have d0 : decide (0 < (j : Int)) = true := decide_eq_true (by omega)
            rw [decide_eq_false h0, Bool.false_or] at hst
            have e1 : ((j : Int) - 1).toNat = j - 1 := by omega
            have hget1 := getD_map AV.str fs [] (AV.str []) (show j - 1 < fs.length by omega)
            cases h2 : Op.bytesLess (fs.getD (j - 1) []) x with
            | true =>
              rw [h2] at hst
              simp only [b_gright_1, r_gright, d1, d0, e1, hget, hget1, hga, h1, h2, phiGR_2, nrightS, Int.toNat_natCast, List.length_map, go_sem, Nat.reduceDiv, Nat.reduceMod, ↓reduceIte, Nat.reduceSub, Nat.reduceAdd, Nat.reduceLeDiff, reduceCtorEq]
              exact ⟨⟨by omega, by omega⟩, hlen, ⟨by omega, by omega⟩, ⟨by omega, by omega⟩, ⟨by omega, by omega⟩, hR2 _ (j + 1) ⟨hjl, htk, hst⟩ (by omega) rfl⟩
            | false =>
              rw [h2] at hst
              rw [bad4 (hasc hst)]
              simp only [b_gright_1, r_gright, d1, d0, e1, hget, hget1, hga, h1, h2, phiGR_2, nrightS, Int.toNat_natCast, List.length_map, go_sem, Nat.reduceDiv, Nat.reduceMod, ↓reduceIte, Nat.reduceSub, Nat.reduceAdd, Nat.reduceLeDiff, reduceCtorEq]
              exact ⟨⟨by omega, by omega⟩, hlen, ⟨by omega, by omega⟩, by omega, by omega⟩
      · have d1 : decide ((j : Int) < (fs.length : Int)) = false := decide_eq_false (by omega)
        rw [List.take_of_length_le (by omega)] at j2 j3
        have hrr : rightH ⟨m1, u, t, z, es, fs, d⟩ = (((((!decide (u = []) && !u.contains 10) && decide (0 ≤ t)) && decide (t < 4611686018427387904)) && decide (-86399 ≤ z)) && decide (z ≤ 86399)) := by
          unfold rightH
          simp only [i2, i3, j2, j3, Bool.and_true]
          simp
        rw [hrr]
        cases a1 : decide (u = []) with
        | true => simp only [a1, b_gright_1, t_gright_0, r_gright, d1, Bool.false_and, Bool.not_true, go_sem, Nat.reduceDiv, Nat.reduceMod, ↓reduceIte, Nat.reduceSub, Nat.reduceAdd, reduceCtorEq]
        | false =>
        cases a2 : u.contains 10 with
        | true =>
          simp only [a1, a2, b_gright_1, t_gright_0, r_gright, d1, phiGR_3, containsS, Bool.false_and, Bool.true_and, Bool.not_true, Bool.not_false, go_sem, Nat.reduceDiv, Nat.reduceMod, ↓reduceIte, Nat.reduceSub, Nat.reduceAdd, reduceCtorEq]
          exact q9
        | false =>
        cases a3 : decide (0 ≤ t) with
        | false =>
          simp only [a1, a2, a3, b_gright_1, t_gright_0, r_gright, d1, phiGR_3, containsS, Bool.false_and, Bool.true_and, Bool.not_false, go_sem, Nat.reduceDiv, Nat.reduceMod, ↓reduceIte, Nat.reduceSub, Nat.reduceAdd, Nat.reduceLeDiff, reduceCtorEq]
          exact q9
        | true =>
        cases a4 : decide (t < 4611686018427387904) with
        | false =>
          simp only [a1, a2, a3, a4, b_gright_1, t_gright_0, r_gright, d1, phiGR_3, containsS, Bool.false_and, Bool.true_and, Bool.not_false, go_sem, Nat.reduceDiv, Nat.reduceMod, ↓reduceIte, Nat.reduceSub, Nat.reduceAdd, Nat.reduceLeDiff, reduceCtorEq]
          exact q9
        | true =>
        cases a5 : decide (-86399 ≤ z) with
        | false =>
          simp only [a1, a2, a3, a4, a5, b_gright_1, t_gright_0, r_gright, d1, phiGR_3, containsS, Bool.false_and, Bool.true_and, Bool.not_false, go_sem, Nat.reduceDiv, Nat.reduceMod, ↓reduceIte, Nat.reduceSub, Nat.reduceAdd, Nat.reduceLeDiff, reduceCtorEq]
          exact q9
        | true =>
          simp only [a1, a2, a3, a4, a5, b_gright_1, t_gright_0, r_gright, d1, phiGR_3, containsS, Bool.true_and, Bool.not_false, go_sem, Nat.reduceDiv, Nat.reduceMod, ↓reduceIte, Nat.reduceSub, Nat.reduceAdd, Nat.reduceLeDiff, reduceCtorEq]
          exact q9
  · cases hs
end Go.Proofs.YtgaehhechonegaaGreatDoor
namespace Go.Proofs.YtgaehhechonegaaGreatDoor
set_option linter.all false
open Go.RowKit
open Go.Lib (index hasPrefix trimPrefix cut indexAny itoa)
theorem exsT_snoc (l : List ExL) (x : ExL) : exsT (l ++ [x]) = exsT l ++ ((if l = [] then [32] else [0]) ++ exT x) := by
  cases l with
  | nil => simp [exsT, joinB]
  | cons y l =>
    rw [if_neg (by simp), List.cons_append, exsT, exsT, List.map_cons, List.map_append, List.map_cons, List.map_nil, joinB, List.map_cons, joinB]
    simp
theorem file_shift : ∀ fs : List (List UInt8), 10 :: fs.flatMap fileT = fs.flatMap ([10] ++ ·) ++ [10]
  | [] => rfl
  | f :: fs => by
    have ih := file_shift fs
    rw [List.flatMap_cons, List.flatMap_cons, fileT, List.append_assoc, show ([10] : List UInt8) ++ fs.flatMap fileT = 10 :: fs.flatMap fileT from rfl, ih]
    simp
theorem join_body (h u da d : List UInt8) (fs : List (List UInt8)) : joinW [10] (h :: u :: da :: (fs ++ [[], d])) = h ++ 10 :: (u ++ 10 :: (da ++ 10 :: (fs.flatMap fileT ++ 10 :: d))) := by
  have := file_shift fs
  rw [joinW, List.flatMap_cons, List.flatMap_cons, List.flatMap_append]
  have e : da ++ 10 :: (fs.flatMap fileT ++ 10 :: d) = da ++ ((10 :: fs.flatMap fileT) ++ 10 :: d) := by simp
  rw [e, this]
  simp
theorem files_len : ∀ fs : List (List UInt8), (fs.flatMap fileT).length = sumL fs + fs.length
  | [] => rfl
  | f :: fs => by
    have ih := files_len fs
    simp only [List.flatMap_cons, List.length_append, fileT, sumL, List.map_cons, List.sum_cons, List.length_cons, List.length_nil] at ih ⊢
    omega
theorem body_len (c : ChgL) : (bodyH c).length = (hexL c.man).length + c.user.length + (dateT c).length + sumL c.files + c.files.length + c.desc.length + 4 := by
  have := files_len c.files
  simp only [bodyH, List.length_append, List.length_cons]; omega
def sizeH (c : ChgL) : Prop := c.man.length = 20 ∧ c.user.length ≤ 1000000 ∧ c.extras.length ≤ 100000 ∧ c.files.length ≤ 100000 ∧ (∀ x ∈ c.extras, x.1.length ≤ 1000000 ∧ x.2.length ≤ 1000000) ∧ (∀ f ∈ c.files, f.length ≤ 1000000) ∧
  (exsT c.extras).length ≤ 100000000 ∧ sumL c.files ≤ 100000000 ∧ c.desc.length ≤ 100000000 ∧ inI c.time ∧ inI c.zone
def gprnR (c : ChgL) (pr : Prop) : Option Ret := if rightH c = true then some ⟨.tup [.own 0 0, .int .i64 0], [.row 5 1 0 (Bs (bodyH c))], pr⟩ else some ⟨.tup [.con (.slice none 0 0), .int .i64 4], [], pr⟩
def argH (m : List Value) (ke : Nat) (es : List AV) (kf : Nat) (fs : List AV) : Prop := m = (unV m).map U ∧ es = (es.map unEx).map exV ∧ fs = (fs.map unS).map AV.str ∧ (ke = 2 ∨ es = []) ∧ kf = 1
def gprnS : Spec := fun xs hp => match xs, hp with
  | [.agg [(20, .blob m), (1, .str u), (1, .int .i64 t), (1, .int .i64 z), (1, .sl ke es), (1, .sl kf fs), (1, .str d)]], [] =>
    gprnR ⟨unV m, u, t, z, es.map unEx, fs.map unS, d⟩ (argH m ke es kf fs ∧ sizeH ⟨unV m, u, t, z, es.map unEx, fs.map unS, d⟩)
  | _, _ => none
theorem gprnR_pre {c : ChgL} {pr : Prop} {r : Ret} (h : gprnR c pr = some r) (hr : r.pre) : pr := by
  unfold gprnR at h
  split at h <;> (injection h with h; subst h; exact hr)
theorem exsT_take (es : List ExL) {i : Nat} (h : i < es.length) : exsT (es.take (i + 1)) = exsT (es.take i) ++ ((if i = 0 then [32] else [0]) ++ exT es[i]) := by
  rw [List.take_add_one, List.getElem?_eq_getElem h, Option.toList_some, exsT_snoc]
  have : (es.take i = []) ↔ i = 0 := by
    constructor
    · intro e; have := congrArg List.length e; rw [List.length_take, List.length_nil] at this; omega
    · rintro rfl; rfl
  by_cases hi : i = 0
  · rw [if_pos hi, if_pos (this.2 hi)]
  · rw [if_neg hi, if_neg (fun e => hi (this.1 e))]
theorem exsT_take_le (es : List ExL) : ∀ (k i : Nat), i + k = es.length → (exsT (es.take i)).length ≤ (exsT es).length
  | 0, i, h => by rw [List.take_of_length_le (by omega)]; exact Nat.le_refl _
  | k + 1, i, h => by
    have ih := exsT_take_le es k (i + 1) (by omega)
    rw [exsT_take es (by omega), List.length_append] at ih; omega
def phiGP : Phi := phiL [(61, [], grightS), (62, [], itoaS), (51, [], hexS), (63, [], gtoldS), (64, [], joinS)]
theorem phiGP_ok : PhiOk Tryz.prog phiGP := phi_cons gright_ok (by kernel_rfl) (phi_cons ndec_ok (by kernel_rfl) (phi_cons hex_ok (by kernel_rfl) (phi_cons gtold_ok (by kernel_rfl) (phi_cons join_ok (by kernel_rfl) phi_nil))))
theorem phiGP_1 : phiGP 61 = some ([], grightS) := rfl
theorem phiGP_2 : phiGP 62 = some ([], itoaS) := rfl
theorem phiGP_3 : phiGP 51 = some ([], hexS) := rfl
theorem phiGP_4 : phiGP 63 = some ([], gtoldS) := rfl
theorem phiGP_5 : phiGP 64 = some ([], joinS) := rfl
set_option maxHeartbeats 4000000 in
theorem gprn_ok : FnOk Tryz.prog 36 gprnS := by
  refine fn_slim2 Tryz.func36 s_gprn phiGP_ok ?_
  intro xs hp r hs hp'
  unfold gprnS at hs
  split at hs
  · rename_i m u t z ke es kf fs d
    obtain ⟨⟨q1, q2, q3, q4, q5⟩, z1, z2, z3, z4, z5, z6, z7, z8, z9, z10, z11⟩ := gprnR_pre hs hp'
    generalize unV m = m at *
    subst q1
    generalize es.map unEx = es at *
    subst q2
    generalize fs.map unS = fs at *
    subst q3 q5
    simp only at z1 z2 z3 z4 z5 z6 z7 z8 z9 z10 z11
    refine ⟨len_le (by kernel_rfl), ?_⟩
    have zk : ∀ x ∈ es, x.1.length ≤ 1000000000 := fun x hx => by have := (z5 x hx).1; omega
    have zf : ∀ f ∈ fs, f.length ≤ 1000000000 := fun f hf => by have := z6 f hf; omega
    cases hr : rightH ⟨m, u, t, z, es, fs, d⟩ with
    | false =>
      unfold gprnR at hs
      rw [if_neg (by rw [hr]; simp)] at hs
      injection hs with hs; subst hs
      simp only [c_gprn, r_gprn, phiGP_1, grightS, unV_U, unEx_map, unS_map, hr, List.length_map, go_sem, Nat.reduceDiv, Nat.reduceMod, ↓reduceIte, Nat.reduceSub, Nat.reduceAdd, Nat.reduceLeDiff, reduceCtorEq]
      exact ⟨q4, Or.inl trivial, by omega, by omega, zk, zf, z2⟩
    | true =>
      unfold gprnR at hs
      rw [if_pos hr] at hs
      injection hs with hs; subst hs
      have l1 := Lib.itoa_length_le t z10.1 z10.2
      have l2 := Lib.itoa_length_le z z11.1 z11.2
      simp only [c_gprn, phiGP_1, phiGP_2, grightS, itoaS, unV_U, unEx_map, unS_map, hr, List.length_map, go_sem, Nat.reduceDiv, Nat.reduceMod, ↓reduceIte, Nat.reduceSub, Nat.reduceLT, Nat.reduceAdd, Nat.reduceLeDiff, reduceCtorEq]
      refine ⟨⟨q4, Or.inl trivial, by omega, by omega, zk, zf, z2⟩, z10, by (first | omega | (simp only [lenOk]; omega)), z11, by (first | omega | (simp only [lenOk, List.length_append, List.length_cons, List.length_nil]; omega)), ?_⟩
      refine loop2P [] [1, 4, 21, 22, 23] [0] (fun i : Nat => ⟨[(1, .ref 0 0 0), (4, .str (itoa t ++ 32 :: (itoa z ++ exsT (es.take i)))), (21, .sl ke (es.map exV)), (22, .int .i64 (es.length : Int)), (23, .int .i64 (i : Int))], [.cells 40 [(20, .blob (m.map U)), (1, .str u), (1, .int .i64 t), (1, .int .i64 z), (1, .sl ke (es.map exV)), (1, .sl 1 (fs.map AV.str)), (1, .str d)]]⟩)
        (fun i => i ≤ es.length) (fun i => es.length - i) 0 ?_ (Nat.zero_le _) ⟨rfl, by rfl⟩ (fun i hi R hR => ?_)
      · have e0 : itoa t ++ [32] ++ itoa z = itoa t ++ 32 :: itoa z := by simp
        simp only [List.take_zero, exsT, List.append_nil, e0]
        rfl
      by_cases hil : i < es.length
      · have c1 : decide ((i : Int) < (es.length : Int)) = true := decide_eq_true (by omega)
        have hk : ke = 2 := q4.resolve_right (by intro h; have := congrArg List.length h; simp at this; rw [this] at hil; simp at hil)
        have hget := getD_map exV es ([], []) (AV.agg [(1, AV.str []), (1, AV.str [])]) hil
        have hga : es.getD i ([], []) = es[i] := by simp [List.getD_eq_getElem?_getD, List.getElem?_eq_getElem hil]
        obtain ⟨x1, x2⟩ := z5 es[i] (List.getElem_mem _)
        have htk := exsT_take es hil
        have hle := exsT_take_le es (es.length - (i + 1)) (i + 1) (by omega)
        subst hk
        generalize es[i] = x at *
        have htl := tol_len x.2
        rw [htk, List.length_append, List.length_append] at hle
        unfold exT at htk hle
        rw [List.length_append, List.length_cons] at hle
        by_cases h0 : i = 0
        · have d0 : decide ((i : Int) = 0) = true := decide_eq_true (by omega)
          rw [if_pos h0] at htk hle
          simp only [b_gprn_0, c1, d0, hget, hga, exV, phiGP_4, gtoldS, Int.toNat_natCast, List.length_map, go_sem, Nat.reduceDiv, Nat.reduceMod, ↓reduceIte, Nat.reduceSub, Nat.reduceLT, Nat.reduceAdd, Nat.reduceLeDiff, reduceCtorEq]
          refine ⟨⟨by omega, by omega⟩, by (first | omega | (simp only [lenOk]; omega)), by (first | omega | (simp only [lenOk]; omega)), by omega, by (first | omega | (simp only [lenOk, List.length_append, List.length_cons, List.length_nil]; omega)), by (first | omega | (simp only [lenOk, List.length_append, List.length_cons, List.length_nil]; omega)), ⟨by omega, by omega⟩, ?_⟩
          have e : itoa t ++ 32 :: (itoa z ++ exsT (es.take (i + 1))) = itoa t ++ 32 :: (itoa z ++ exsT (List.take i es)) ++ 32 :: (x.1 ++ [58] ++ tolL x.2) := by rw [htk]; simp
          rw [← e]
          exact hR _ (i + 1) hil (by omega) rfl
        · have d0 : decide ((i : Int) = 0) = false := decide_eq_false (by omega)
          rw [if_neg h0] at htk hle
          simp only [b_gprn_0, c1, d0, hget, hga, exV, phiGP_4, gtoldS, Int.toNat_natCast, List.length_map, go_sem, Nat.reduceDiv, Nat.reduceMod, ↓reduceIte, Nat.reduceSub, Nat.reduceLT, Nat.reduceAdd, Nat.reduceLeDiff, reduceCtorEq]
          refine ⟨⟨by omega, by omega⟩, by (first | omega | (simp only [lenOk]; omega)), by (first | omega | (simp only [lenOk]; omega)), by omega, by (first | omega | (simp only [lenOk, List.length_append, List.length_cons, List.length_nil]; omega)), by (first | omega | (simp only [lenOk, List.length_append, List.length_cons, List.length_nil]; omega)), ⟨by omega, by omega⟩, ?_⟩
          have e : itoa t ++ 32 :: (itoa z ++ exsT (es.take (i + 1))) = itoa t ++ 32 :: (itoa z ++ exsT (List.take i es)) ++ 0 :: (x.1 ++ [58] ++ tolL x.2) := by rw [htk]; simp
          rw [← e]
          exact hR _ (i + 1) hil (by omega) rfl
      · have c1 : decide ((i : Int) < (es.length : Int)) = false := decide_eq_false (by omega)
        rw [List.take_of_length_le (by omega)]
        simp only [b_gprn_0, t_gprn_0, r_gprn, c1, phiGP_3, phiGP_5, hexS, joinS, unV_U, List.length_map, go_sem, Nat.reduceDiv, Nat.reduceMod, ↓reduceIte, Nat.reduceSub, Nat.reduceLT, Nat.reduceAdd, Nat.reduceLeDiff, reduceCtorEq]
        have eR : fs.map AV.str ++ [AV.str [], AV.str d] = (fs ++ [[], d]).map AV.str := by simp
        have eJ : joinW [10] (unS (AV.str (hexL m)) :: unS (AV.str u) :: unS (AV.str (itoa t ++ 32 :: (itoa z ++ exsT es))) :: (fs ++ [[], d])) = bodyH ⟨m, u, t, z, es, fs, d⟩ := join_body _ _ _ _ _
        have hb := body_len ⟨m, u, t, z, es, fs, d⟩
        have hh := hexL_length m
        have hd : (dateT ⟨m, u, t, z, es, fs, d⟩).length = (itoa t).length + (1 + (itoa z).length + (exsT es).length) := by unfold dateT; simp only [List.length_append, List.length_cons]; omega
        simp only at hb
        rw [eR, unS_map, List.length_map, List.length_append, eJ]
        have hs : sumL (unS (AV.str (hexL m)) :: unS (AV.str u) :: unS (AV.str (itoa t ++ 32 :: (itoa z ++ exsT es))) :: (fs ++ [[], d])) = (hexL m).length + (u.length + ((dateT ⟨m, u, t, z, es, fs, d⟩).length + (sumL fs + d.length))) := by
          simp only [sumL, unS, dateT, List.map_cons, List.sum_cons, List.map_append, List.sum_append, List.map_nil, List.sum_nil, List.length_nil]; omega
        refine ⟨z1, ⟨by (first | omega | (simp only [lenOk]; omega)), by (first | omega | (simp only [bytesOk]; omega))⟩, ⟨by (first | omega | (simp only [lenOk, List.length_cons, List.length_nil]; omega)), by (first | omega | (simp only [bytesOk, List.length_cons, List.length_nil]; omega))⟩, ⟨rfl, Or.inl trivial, by simp only [List.length_cons, List.length_nil]; omega, by rw [hs]; omega⟩, by (first | omega | (simp only [lenOk]; omega)), rfl⟩
  · cases hs
end Go.Proofs.YtgaehhechonegaaGreatDoor
