import Derived.Test.YtgaehhechonegaaGreatDoorChecked
import Derived.Test.YtgaehhechonegaaGreatDoorQAMS
import Derived.Test.YtgaehhechonegaaGreatDoorQFCom4
import Derived.Test.YtgaehhechonegaaGreatDoorQFBld
import Derived.Test.YtgaehhechonegaaGreatDoorQFZone
import Derived.Lib.SplitLaws
import Derived.Lib.IndexAny
import Derived.Lib.IndexMore
namespace Go.Proofs.YtgaehhechonegaaGreatDoor
set_option linter.all false
open Go.RowKit
def b_rsame_0 : ACode := (.seq (.seq (.reg none [⟨(some 51), (.mv (.t 5)), none⟩, ⟨(some 52), (.fa 20 (.t 2)), none⟩, ⟨(some 53), (.ld (.one (.con (.slice none 0 0))) (.t 52)), none⟩, ⟨(some 54), (.len none false (.t 53)), none⟩, ⟨(some 55), (.bin .lss (.t 51) (.t 54)), none⟩]) (.cond (.t 55) .skip (.exit 0))) (.seq (.block 1 (.seq (.reg (some [(0, false), (1, false), (2, false), (3, false), (4, false), (5, false), (6, false), (7, false), (8, false), (9, false), (10, true)]) [⟨(some 58), (.fa 20 (.t 2)), none⟩, ⟨(some 59), (.ld (.one (.con (.slice none 0 0))) (.t 58)), none⟩, ⟨(some 60), (.mv (.t 5)), none⟩, ⟨(some 61), (.ia 20 (.blob (List.replicate 20 (.int .u8 0))) (.t 59) (.t 60)), none⟩, ⟨(some 62), (.ld (.arr 20) (.t 61)), none⟩, ⟨(some 63), (.fa 20 (.t 3)), none⟩, ⟨(some 64), (.ld (.one (.con (.slice none 0 0))) (.t 63)), none⟩, ⟨(some 65), (.mv (.t 5)), none⟩, ⟨(some 66), (.ia 20 (.blob (List.replicate 20 (.int .u8 0))) (.t 64) (.t 65)), none⟩, ⟨(some 67), (.ld (.arr 20) (.t 66)), none⟩, ⟨(some 68), (.eqA true 20 (.t 62) (.t 67)), none⟩]) (.cond (.t 68) (.seq (.reg none [⟨(some 4), (.mv (.c (.bool false))), none⟩]) .ret) .skip))) (.reg none [⟨(some 56), (.mv (.t 5)), none⟩, ⟨(some 57), (.bin .add (.t 56) (.c (.int .i64 1))), none⟩, ⟨(some 5), (.mv (.t 57)), none⟩])))
def b_rsame_1 : ACode := (.seq (.seq (.reg none [⟨(some 69), (.mv (.t 6)), none⟩, ⟨(some 70), (.fa 29 (.t 2)), none⟩, ⟨(some 71), (.ld (.one (.con (.slice none 0 0))) (.t 70)), none⟩, ⟨(some 72), (.len none false (.t 71)), none⟩, ⟨(some 73), (.bin .lss (.t 69) (.t 72)), none⟩]) (.cond (.t 73) .skip (.exit 2))) (.seq (.block 3 (.seq (.reg (some [(0, false), (1, false), (2, false), (3, false), (4, false), (5, false), (6, false), (7, false), (8, false), (9, false), (10, true)]) [⟨(some 76), (.fa 29 (.t 2)), none⟩, ⟨(some 77), (.ld (.one (.con (.slice none 0 0))) (.t 76)), none⟩, ⟨(some 78), (.mv (.t 6)), none⟩, ⟨(some 79), (.ia 2 (.agg [(1, (.str [])), (1, (.str []))]) (.t 77) (.t 78)), none⟩, ⟨(some 80), (.ld (.st 2) (.t 79)), none⟩, ⟨(some 81), (.fa 29 (.t 3)), none⟩, ⟨(some 82), (.ld (.one (.con (.slice none 0 0))) (.t 81)), none⟩, ⟨(some 83), (.mv (.t 6)), none⟩, ⟨(some 84), (.ia 2 (.agg [(1, (.str [])), (1, (.str []))]) (.t 82) (.t 83)), none⟩, ⟨(some 85), (.ld (.st 2) (.t 84)), none⟩, ⟨(some 86), (.eqS true [(0, ((.one (.str [])), 0)), (1, ((.one (.str [])), 0))] (.t 80) (.t 85)), none⟩]) (.cond (.t 86) (.seq (.reg none [⟨(some 4), (.mv (.c (.bool false))), none⟩]) .ret) .skip))) (.reg none [⟨(some 74), (.mv (.t 6)), none⟩, ⟨(some 75), (.bin .add (.t 74) (.c (.int .i64 1))), none⟩, ⟨(some 6), (.mv (.t 75)), none⟩])))
def t_rsame_0 : ACode := (.seq (.reg none [⟨(some 4), (.mv (.c (.bool true))), none⟩]) .ret)
def t_rsame_1 : ACode := (.seq (.seq (.reg none [⟨(some 6), (.mv (.c (.int .i64 0))), none⟩]) (.block 2 (.loop b_rsame_1))) t_rsame_0)
def c_rsame : ACode := (.seq (.reg none [⟨(some 2), (.box 28 31 (.t 0)), none⟩, ⟨(some 3), (.box 28 31 (.t 1)), none⟩, ⟨(some 4), (.mv (.c (.bool false))), none⟩]) (.seq (.seq (.reg none [⟨(some 7), (.fa 0 (.t 2)), none⟩, ⟨(some 8), (.ld (.arr 20) (.t 7)), none⟩, ⟨(some 9), (.fa 0 (.t 3)), none⟩, ⟨(some 10), (.ld (.arr 20) (.t 9)), none⟩, ⟨(some 11), (.eqA true 20 (.t 8) (.t 10)), none⟩, ⟨(some 12), (.mv (.t 11)), none⟩, ⟨(some 13), (.fa 21 (.t 2)), (some (12, false))⟩, ⟨(some 14), (.ld (.st 4) (.t 13)), (some (12, false))⟩, ⟨(some 15), (.fa 21 (.t 3)), (some (12, false))⟩, ⟨(some 16), (.ld (.st 4) (.t 15)), (some (12, false))⟩, ⟨(some 17), (.eqS true [(0, ((.one (.str [])), 0)), (1, ((.one (.str [])), 0)), (2, ((.one (.int .i64 0)), 1)), (3, ((.one (.str [])), 0))] (.t 14) (.t 16)), (some (12, false))⟩, ⟨(some 18), (.pick (.t 12) (.c (.bool true)) (.t 17)), none⟩, ⟨(some 19), (.mv (.t 18)), none⟩, ⟨(some 20), (.fa 25 (.t 2)), (some (19, false))⟩, ⟨(some 21), (.ld (.st 4) (.t 20)), (some (19, false))⟩, ⟨(some 22), (.fa 25 (.t 3)), (some (19, false))⟩, ⟨(some 23), (.ld (.st 4) (.t 22)), (some (19, false))⟩, ⟨(some 24), (.eqS true [(0, ((.one (.str [])), 0)), (1, ((.one (.str [])), 0)), (2, ((.one (.int .i64 0)), 1)), (3, ((.one (.str [])), 0))] (.t 21) (.t 23)), (some (19, false))⟩, ⟨(some 25), (.pick (.t 19) (.c (.bool true)) (.t 24)), none⟩, ⟨(some 26), (.mv (.t 25)), none⟩, ⟨(some 27), (.fa 30 (.t 2)), (some (26, false))⟩, ⟨(some 28), (.ld (.one (.str [])) (.t 27)), (some (26, false))⟩, ⟨(some 29), (.fa 30 (.t 3)), (some (26, false))⟩, ⟨(some 30), (.ld (.one (.str [])) (.t 29)), (some (26, false))⟩, ⟨(some 31), (.bin .neq (.t 28) (.t 30)), (some (26, false))⟩, ⟨(some 32), (.pick (.t 26) (.c (.bool true)) (.t 31)), none⟩, ⟨(some 33), (.mv (.t 32)), none⟩, ⟨(some 34), (.fa 20 (.t 2)), (some (33, false))⟩, ⟨(some 35), (.ld (.one (.con (.slice none 0 0))) (.t 34)), (some (33, false))⟩, ⟨(some 36), (.len none false (.t 35)), (some (33, false))⟩, ⟨(some 37), (.fa 20 (.t 3)), (some (33, false))⟩, ⟨(some 38), (.ld (.one (.con (.slice none 0 0))) (.t 37)), (some (33, false))⟩, ⟨(some 39), (.len none false (.t 38)), (some (33, false))⟩, ⟨(some 40), (.bin .neq (.t 36) (.t 39)), (some (33, false))⟩, ⟨(some 41), (.pick (.t 33) (.c (.bool true)) (.t 40)), none⟩, ⟨(some 42), (.mv (.t 41)), none⟩, ⟨(some 43), (.fa 29 (.t 2)), (some (42, false))⟩, ⟨(some 44), (.ld (.one (.con (.slice none 0 0))) (.t 43)), (some (42, false))⟩, ⟨(some 45), (.len none false (.t 44)), (some (42, false))⟩, ⟨(some 46), (.fa 29 (.t 3)), (some (42, false))⟩, ⟨(some 47), (.ld (.one (.con (.slice none 0 0))) (.t 46)), (some (42, false))⟩, ⟨(some 48), (.len none false (.t 47)), (some (42, false))⟩, ⟨(some 49), (.bin .neq (.t 45) (.t 48)), (some (42, false))⟩, ⟨(some 50), (.pick (.t 42) (.c (.bool true)) (.t 49)), none⟩]) (.cond (.t 50) (.seq (.reg none [⟨(some 4), (.mv (.c (.bool false))), none⟩]) .ret) .skip)) (.seq (.seq (.reg none [⟨(some 5), (.mv (.c (.int .i64 0))), none⟩]) (.block 0 (.loop b_rsame_0))) t_rsame_1)))
def r_rsame : List ARes := [(.t 4)]
theorem s_rsame : slimF Tryz.prog Tryz.f17 = some (c_rsame, r_rsame) := by kernel_rfl
end Go.Proofs.YtgaehhechonegaaGreatDoor
namespace Go.Proofs.YtgaehhechonegaaGreatDoor
set_option linter.all false
open Go.RowKit
def sameW (a b : WhoL) : Bool := decide (a.name = b.name) && (decide (a.mail = b.mail) && (decide (a.time = b.time) && (decide (a.zone = b.zone) && true)))
theorem sameW_iff {a b : WhoL} : sameW a b = true ↔ a = b := by
  cases a; cases b; simp [sameW]
def sameC (c d : ComL) : Bool := decide (c.tree = d.tree) && sameW c.author d.author && sameW c.committer d.committer && decide (c.message = d.message) && decide (c.parents = d.parents) && decide (c.extras = d.extras)
theorem sameC_iff {c d : ComL} : sameC c d = true ↔ c = d := by
  cases c; cases d; simp [sameC, sameW_iff]; constructor
  · rintro ⟨⟨⟨⟨⟨rfl, rfl⟩, rfl⟩, rfl⟩, rfl⟩, rfl⟩; simp
  · rintro ⟨rfl, rfl, rfl, rfl, rfl, rfl⟩; simp
def rsameS : Spec := fun xs hp => match xs, hp with
  | [.agg [(20, .blob t), (1, .sl kq ps), (1, .str an), (1, .str am), (1, .int .i64 at'), (1, .str az), (1, .str cn), (1, .str cm), (1, .int .i64 ct), (1, .str cz), (1, .sl ke es), (1, .str m)],
     .agg [(20, .blob t2), (1, .sl kq2 ps2), (1, .str an2), (1, .str am2), (1, .int .i64 at2), (1, .str az2), (1, .str cn2), (1, .str cm2), (1, .int .i64 ct2), (1, .str cz2), (1, .sl ke2 es2), (1, .str m2)]], [] =>
    some ⟨.bool (sameC ⟨unV t, ps.map unId, ⟨an, am, at', az⟩, ⟨cn, cm, ct, cz⟩, es.map unEx, m⟩ ⟨unV t2, ps2.map unId, ⟨an2, am2, at2, az2⟩, ⟨cn2, cm2, ct2, cz2⟩, es2.map unEx, m2⟩), [],
      (t = (unV t).map U ∧ ps = (ps.map unId).map idAV ∧ es = (es.map unEx).map exV ∧ (kq = 20 ∨ ps = []) ∧ (ke = 2 ∨ es = []) ∧ (unV t).length = 20 ∧ (∀ p ∈ ps.map unId, p.length = 20) ∧ ps.length ≤ 1000000 ∧ es.length ≤ 1000000) ∧
      (t2 = (unV t2).map U ∧ ps2 = (ps2.map unId).map idAV ∧ es2 = (es2.map unEx).map exV ∧ (kq2 = 20 ∨ ps2 = []) ∧ (ke2 = 2 ∨ es2 = []) ∧ (unV t2).length = 20 ∧ (∀ p ∈ ps2.map unId, p.length = 20) ∧ ps2.length ≤ 1000000 ∧ es2.length ≤ 1000000)⟩
  | _, _ => none
theorem take_eq_succ {α : Type} {l m : List α} {i : Nat} (h : l.take i = m.take i) (hi : i < l.length) (hj : i < m.length) (e : l[i] = m[i]) : l.take (i + 1) = m.take (i + 1) := by
  rw [List.take_add_one, List.take_add_one, h, List.getElem?_eq_getElem hi, List.getElem?_eq_getElem hj, e]
set_option maxHeartbeats 4000000 in
theorem rsame_ok : FnOk Tryz.prog 17 rsameS := by
  refine fn_slim2 Tryz.func17 s_rsame (Φ := phiL []) phi_nil ?_
  intro xs hp r hs hp'
  unfold rsameS at hs
  split at hs
  · injection hs with hs; subst hs
    rename_i t kq ps an am at' az cn cm ct cz ke es m t2 kq2 ps2 an2 am2 at2 az2 cn2 cm2 ct2 cz2 ke2 es2 m2
    obtain ⟨⟨q1, q2, q3, q4, q5, q6, q7, q8, q9⟩, w1, w2, w3, w4, w5, w6, w7, w8, w9⟩ := hp'
    generalize unV t = t at *
    subst q1
    generalize ps.map unId = ps at *
    subst q2
    generalize es.map unEx = es at *
    subst q3
    generalize unV t2 = t2 at *
    subst w1
    generalize ps2.map unId = ps2 at *
    subst w2
    generalize es2.map unEx = es2 at *
    subst w3
    rw [List.length_map] at q8 q9 w8 w9
    refine ⟨len_le (by kernel_rfl), ?_⟩
    have hsa : (decide (an = an2) && (decide (am = am2) && (decide (at' = at2) && decide (az = az2)))) = sameW ⟨an, am, at', az⟩ ⟨an2, am2, at2, az2⟩ := by unfold sameW; simp only [Bool.and_true]
    have hsc : (decide (cn = cn2) && (decide (cm = cm2) && (decide (ct = ct2) && decide (cz = cz2)))) = sameW ⟨cn, cm, ct, cz⟩ ⟨cn2, cm2, ct2, cz2⟩ := by unfold sameW; simp only [Bool.and_true]
    unfold sameC
    simp only
    cases h1 : decide (t = t2) with
    | false =>
      simp only [c_rsame, r_rsame, unV_U, h1, Bool.false_and, go_sem, Nat.reduceDiv, Nat.reduceMod, ↓reduceIte, Nat.reduceAdd]
      exact ⟨q6, w6⟩
    | true =>
    cases h2 : sameW ⟨an, am, at', az⟩ ⟨an2, am2, at2, az2⟩ with
    | false =>
      simp only [c_rsame, r_rsame, unV_U, h1, hsa, h2, Bool.false_and, Bool.and_false, go_sem, Nat.reduceDiv, Nat.reduceMod, ↓reduceIte, Nat.reduceSub, Nat.reduceAdd, Nat.reduceLeDiff, reduceCtorEq]
      exact ⟨q6, w6⟩
    | true =>
    cases h3 : sameW ⟨cn, cm, ct, cz⟩ ⟨cn2, cm2, ct2, cz2⟩ with
    | false =>
      simp only [c_rsame, r_rsame, unV_U, h1, hsa, hsc, h2, h3, Bool.false_and, Bool.and_false, go_sem, Nat.reduceDiv, Nat.reduceMod, ↓reduceIte, Nat.reduceSub, Nat.reduceAdd, Nat.reduceLeDiff, reduceCtorEq]
      exact ⟨q6, w6⟩
    | true =>
    cases h4 : decide (m = m2) with
    | false =>
      simp only [c_rsame, r_rsame, unV_U, h1, hsa, hsc, h2, h3, h4, Bool.false_and, Bool.and_false, go_sem, Nat.reduceDiv, Nat.reduceMod, ↓reduceIte, Nat.reduceSub, Nat.reduceAdd, Nat.reduceLeDiff, reduceCtorEq]
      exact ⟨q6, w6⟩
    | true =>
    by_cases h5 : ps.length = ps2.length
    rotate_left
    · have d5 : decide ((ps.length : Int) = (ps2.length : Int)) = false := decide_eq_false (by omega)
      have e : decide (ps = ps2) = false := decide_eq_false (by rintro rfl; exact h5 rfl)
      simp only [c_rsame, r_rsame, unV_U, h1, hsa, hsc, h2, h3, h4, d5, e, Bool.false_and, Bool.and_false, go_sem, Nat.reduceDiv, Nat.reduceMod, ↓reduceIte, Nat.reduceSub, Nat.reduceAdd, Nat.reduceLeDiff, reduceCtorEq]
      exact ⟨q6, w6⟩
    have d5 : decide ((ps.length : Int) = (ps2.length : Int)) = true := decide_eq_true (by omega)
    by_cases h6 : es.length = es2.length
    rotate_left
    · have d6 : decide ((es.length : Int) = (es2.length : Int)) = false := decide_eq_false (by omega)
      have e : decide (es = es2) = false := decide_eq_false (by rintro rfl; exact h6 rfl)
      simp only [c_rsame, r_rsame, unV_U, h1, hsa, hsc, h2, h3, h4, d5, d6, e, Bool.and_false, go_sem, Nat.reduceDiv, Nat.reduceMod, ↓reduceIte, Nat.reduceSub, Nat.reduceAdd, Nat.reduceLeDiff, reduceCtorEq]
      exact ⟨q6, w6⟩
    have d6 : decide ((es.length : Int) = (es2.length : Int)) = true := decide_eq_true (by omega)
    simp only [c_rsame, unV_U, h1, hsa, hsc, h2, h3, h4, d5, d6, Bool.true_and, go_sem, Nat.reduceDiv, Nat.reduceMod, ↓reduceIte, Nat.reduceSub, Nat.reduceAdd, Nat.reduceLeDiff, reduceCtorEq]
    refine ⟨⟨q6, w6⟩, ?_⟩
    refine loop2P [] [2, 3, 5] [0, 1] (fun i : Nat => ⟨[(2, .ref 0 0 0), (3, .ref 1 0 0), (5, .int .i64 (i : Int))],
      [.cells 28 [(20, .blob (t.map U)), (1, .sl kq (ps.map idAV)), (1, .str an), (1, .str am), (1, .int .i64 at'), (1, .str az), (1, .str cn), (1, .str cm), (1, .int .i64 ct), (1, .str cz), (1, .sl ke (es.map exV)), (1, .str m)],
       .cells 28 [(20, .blob (t2.map U)), (1, .sl kq2 (ps2.map idAV)), (1, .str an2), (1, .str am2), (1, .int .i64 at2), (1, .str az2), (1, .str cn2), (1, .str cm2), (1, .int .i64 ct2), (1, .str cz2), (1, .sl ke2 (es2.map exV)), (1, .str m2)]]⟩)
      (fun i => i ≤ ps.length ∧ ps.take i = ps2.take i) (fun i => ps.length - i) 0 rfl ⟨Nat.zero_le _, by simp⟩ ⟨rfl, by rfl⟩ (fun i hi R hR => ?_)
    obtain ⟨i1, i2⟩ := hi
    by_cases hil : i < ps.length
    · have c1 : decide ((i : Int) < (ps.length : Int)) = true := decide_eq_true (by omega)
      have hk : kq = 20 := q4.resolve_right (by intro h; have := congrArg List.length h; simp at this; rw [this] at hil; simp at hil)
      have hk2 : kq2 = 20 := w4.resolve_right (by intro h; have := congrArg List.length h; simp at this; rw [this] at h5; simp at h5; rw [h5] at hil; simp at hil)
      subst hk hk2
      have hget := getD_map idAV ps [] (.blob (List.replicate 20 (.int .u8 0))) hil
      have hga : ps.getD i [] = ps[i] := by simp [List.getD_eq_getElem?_getD, List.getElem?_eq_getElem hil]
      have hget2 := getD_map idAV ps2 [] (.blob (List.replicate 20 (.int .u8 0))) (show i < ps2.length by omega)
      have hga2 : ps2.getD i [] = ps2[i] := by simp [List.getD_eq_getElem?_getD, List.getElem?_eq_getElem (show i < ps2.length by omega)]
      have hl1 := q7 ps[i] (List.getElem_mem _)
      have hl2 := w7 ps2[i] (List.getElem_mem _)
      cases hx : decide (ps[i] = ps2[i]) with
      | false =>
        have e : decide (ps = ps2) = false := decide_eq_false (by rintro rfl; exact (of_decide_eq_false hx) rfl)
        rw [e, Bool.false_and]
        simp only [b_rsame_0, r_rsame, unV_U, c1, hget, hga, hget2, hga2, idAV, hx, hl1, hl2, Int.toNat_natCast, List.length_map, go_sem, Nat.reduceDiv, Nat.reduceMod, ↓reduceIte, Nat.reduceSub, Nat.reduceAdd, reduceCtorEq]
        repeat' apply And.intro
        all_goals first | omega | rfl | trivial | skip
      | true =>
        simp only [b_rsame_0, r_rsame, unV_U, c1, hget, hga, hget2, hga2, idAV, hx, hl1, hl2, Int.toNat_natCast, List.length_map, go_sem, Nat.reduceDiv, Nat.reduceMod, ↓reduceIte, Nat.reduceSub, Nat.reduceAdd, reduceCtorEq]
        refine ⟨⟨by omega, by omega⟩, ⟨by omega, by omega⟩, ⟨by omega, by omega⟩, hR _ (i + 1) ⟨by omega, take_eq_succ i2 hil (by omega) (of_decide_eq_true hx)⟩ (by omega) rfl⟩
    · have c1 : decide ((i : Int) < (ps.length : Int)) = false := decide_eq_false (by omega)
      have e1 : ps = ps2 := by
        rw [List.take_of_length_le (by omega), List.take_of_length_le (by omega)] at i2; exact i2
      have e : decide (ps = ps2) = true := decide_eq_true e1
      rw [e, Bool.true_and]
      simp only [b_rsame_0, t_rsame_1, c1, go_sem, Nat.reduceDiv, Nat.reduceMod, ↓reduceIte, Nat.reduceSub, Nat.reduceAdd, reduceCtorEq]
      clear hR R
      refine loop2P [] [2, 3, 6] [0, 1] (fun i : Nat => ⟨[(2, .ref 0 0 0), (3, .ref 1 0 0), (6, .int .i64 (i : Int))],
        [.cells 28 [(20, .blob (t.map U)), (1, .sl kq (ps.map idAV)), (1, .str an), (1, .str am), (1, .int .i64 at'), (1, .str az), (1, .str cn), (1, .str cm), (1, .int .i64 ct), (1, .str cz), (1, .sl ke (es.map exV)), (1, .str m)],
         .cells 28 [(20, .blob (t2.map U)), (1, .sl kq2 (ps2.map idAV)), (1, .str an2), (1, .str am2), (1, .int .i64 at2), (1, .str az2), (1, .str cn2), (1, .str cm2), (1, .int .i64 ct2), (1, .str cz2), (1, .sl ke2 (es2.map exV)), (1, .str m2)]]⟩)
        (fun i => i ≤ es.length ∧ es.take i = es2.take i) (fun i => es.length - i) 0 rfl ⟨Nat.zero_le _, by simp⟩ ⟨rfl, by rfl⟩ (fun j hj R hR => ?_)
      obtain ⟨j1, j2⟩ := hj
      by_cases hjl : j < es.length
      · have c1 : decide ((j : Int) < (es.length : Int)) = true := decide_eq_true (by omega)
        have hk : ke = 2 := q5.resolve_right (by intro h; have := congrArg List.length h; simp at this; rw [this] at hjl; simp at hjl)
        have hk2 : ke2 = 2 := w5.resolve_right (by intro h; have := congrArg List.length h; simp at this; rw [this] at h6; simp at h6; rw [h6] at hjl; simp at hjl)
        subst hk hk2
        have hget := getD_map exV es ([], []) (.agg [(1, (.str [])), (1, (.str []))]) hjl
        have hga : es.getD j ([], []) = es[j] := by simp [List.getD_eq_getElem?_getD, List.getElem?_eq_getElem hjl]
        have hget2 := getD_map exV es2 ([], []) (.agg [(1, (.str [])), (1, (.str []))]) (show j < es2.length by omega)
        have hga2 : es2.getD j ([], []) = es2[j] := by simp [List.getD_eq_getElem?_getD, List.getElem?_eq_getElem (show j < es2.length by omega)]
        have hpe : (decide (es[j].1 = es2[j].1) && decide (es[j].2 = es2[j].2)) = decide (es[j] = es2[j]) := by
          rw [Bool.eq_iff_iff]; simp [Prod.ext_iff]
        cases hx : decide (es[j] = es2[j]) with
        | false =>
          have e : decide (es = es2) = false := decide_eq_false (by rintro rfl; exact (of_decide_eq_false hx) rfl)
          rw [e]
          simp only [b_rsame_1, r_rsame, c1, hget, hga, hget2, hga2, exV, hpe, hx, Int.toNat_natCast, go_sem, Nat.reduceDiv, Nat.reduceMod, ↓reduceIte, Nat.reduceSub, Nat.reduceAdd, Nat.reduceLeDiff, reduceCtorEq]
          repeat' apply And.intro
          all_goals first | omega | rfl | trivial | skip
        | true =>
          simp only [b_rsame_1, r_rsame, c1, hget, hga, hget2, hga2, exV, hpe, hx, Int.toNat_natCast, go_sem, Nat.reduceDiv, Nat.reduceMod, ↓reduceIte, Nat.reduceSub, Nat.reduceAdd, Nat.reduceLeDiff, reduceCtorEq]
          refine ⟨⟨by omega, by omega⟩, ⟨by omega, by omega⟩, ⟨by omega, by omega⟩, hR _ (j + 1) ⟨by omega, take_eq_succ j2 hjl (by omega) (of_decide_eq_true hx)⟩ (by omega) rfl⟩
      · have c1 : decide ((j : Int) < (es.length : Int)) = false := decide_eq_false (by omega)
        have e1 : es = es2 := by
          rw [List.take_of_length_le (by omega), List.take_of_length_le (by omega)] at j2; exact j2
        have e : decide (es = es2) = true := decide_eq_true e1
        rw [e]
        simp only [b_rsame_1, t_rsame_0, r_rsame, c1, go_sem, Nat.reduceDiv, Nat.reduceMod, ↓reduceIte, Nat.reduceSub, Nat.reduceAdd, Nat.reduceLeDiff, reduceCtorEq]
  · cases hs
end Go.Proofs.YtgaehhechonegaaGreatDoor
namespace Go.Proofs.YtgaehhechonegaaGreatDoor
set_option linter.all false
open Go.RowKit
theorem hasL_iff (p s : List UInt8) : hasL p s = true ↔ ∃ x ∈ s, x ∈ p := by unfold hasL; simp
theorem hasL_app (p a b : List UInt8) : hasL p (a ++ b) = (hasL p a || hasL p b) := by unfold hasL; rw [List.any_append]
end Go.Proofs.YtgaehhechonegaaGreatDoor
namespace Go.Proofs.YtgaehhechonegaaGreatDoor
set_option linter.all false
open Go.RowKit
open Go.Lib (decDigits itoa)
end Go.Proofs.YtgaehhechonegaaGreatDoor
namespace Go.Proofs.YtgaehhechonegaaGreatDoor
set_option linter.all false
open Go.RowKit
open Go.Lib (index hasPrefix cut indexAny itoa)
end Go.Proofs.YtgaehhechonegaaGreatDoor
namespace Go.Proofs.YtgaehhechonegaaGreatDoor
set_option linter.all false
open Go.RowKit
end Go.Proofs.YtgaehhechonegaaGreatDoor
namespace Go.Proofs.YtgaehhechonegaaGreatDoor
set_option linter.all false
open Go.RowKit
open Go.Lib (index hasPrefix cut indexAny itoa)
end Go.Proofs.YtgaehhechonegaaGreatDoor
namespace Go.Proofs.YtgaehhechonegaaGreatDoor
set_option linter.all false
open Go.RowKit
open Go.Lib (index hasPrefix cut indexAny itoa)
end Go.Proofs.YtgaehhechonegaaGreatDoor
namespace Go.Proofs.YtgaehhechonegaaGreatDoor
set_option linter.all false
open Go.RowKit
open Go.Lib (itoa decDigits)
theorem decN_f {s : List UInt8} (h : decV s = none) : decN s = 0 := by
  unfold decN; rw [sealF_eq]; simp only [h]; rfl
theorem dec_dig (n : Nat) : ∀ x ∈ decDigits n, 48 ≤ x.toNat ∧ x.toNat ≤ 57 := by
  induction n using Nat.strongRecOn with
  | _ n ih =>
    intro x hx
    by_cases h : n < 10
    · rw [decD_small h, List.mem_singleton] at hx
      subst hx; rw [dc_toNat h]; omega
    · rw [decD_big (by omega), List.mem_append, List.mem_singleton] at hx
      rcases hx with hx | rfl
      · exact ih (n / 10) (by omega) x hx
      · rw [dc_toNat (by omega)]; omega
theorem dec_no (n : Nat) (c : UInt8) (h : c.toNat < 48) : c ∉ decDigits n := fun hm => by have := (dec_dig n c hm).1; omega
theorem itoa_dec {t : Int} (h : 0 ≤ t) : itoa t = decDigits t.toNat := by
  obtain ⟨n, rfl⟩ := Int.eq_ofNat_of_zero_le h
  rw [itoa_nat]; rfl
theorem decB_itoa {t : Int} (h0 : 0 ≤ t) (h1 : t < 4611686018427387904) : decB (itoa t) = true ∧ (decN (itoa t) : Int) = t := by
  rw [itoa_dec h0]
  obtain ⟨a, b⟩ := decBN_some (decV_dec t.toNat (by omega))
  exact ⟨a, by rw [b]; omega⟩
theorem itoa_decN {s : List UInt8} (h : decB s = true) : itoa (decN s : Int) = s := by
  rw [itoa_nat]; exact (decV_some (decB_t h)).1.symm
theorem decN_lt (s : List UInt8) : decN s < 4611686018427387904 := by
  cases h : decB s with
  | true => exact (decV_some (decB_t h)).2
  | false => rw [decN_f (decB_f h)]; omega
noncomputable def nmV (s : List UInt8) : Int := if s.head? = some 45 then -(decN (s.drop 1) : Int) else (decN s : Int)
noncomputable def nmB (s : List UInt8) : Bool := if s.head? = some 45 then decB (s.drop 1) && !decide (decN (s.drop 1) = 0) else decB s
theorem dec_head (n : Nat) : (decDigits n).head? ≠ some 45 := by
  intro h
  cases hd : decDigits n with
  | nil => rw [hd] at h; cases h
  | cons x l =>
    rw [hd] at h; injection h with h
    have := dec_dig n x (by rw [hd]; exact List.mem_cons_self ..)
    rw [h] at this; exact absurd this.1 (by decide)
theorem nm_itoa {z : Int} (h0 : -4611686018427387904 < z) (h1 : z < 4611686018427387904) : nmB (itoa z) = true ∧ nmV (itoa z) = z := by
  by_cases hz : z < 0
  · have e : itoa z = 45 :: decDigits z.natAbs := by unfold itoa; rw [if_pos hz]
    have e2 : itoa (z.natAbs : Int) = decDigits z.natAbs := by rw [itoa_nat]
    obtain ⟨a, b⟩ := decB_itoa (t := (z.natAbs : Int)) (by omega) (by omega)
    rw [e2] at a b
    unfold nmB nmV
    have hh : (45 :: decDigits z.natAbs).head? = some 45 := rfl
    rw [e, if_pos hh, if_pos hh, List.drop_succ_cons, List.drop_zero, a]
    refine ⟨?_, by omega⟩
    rw [decide_eq_false (by omega)]; rfl
  · obtain ⟨a, b⟩ := decB_itoa (t := z) (by omega) h1
    have hh : (itoa z).head? ≠ some 45 := by rw [itoa_dec (by omega)]; exact dec_head _
    unfold nmB nmV
    rw [if_neg hh, if_neg hh]
    exact ⟨a, b⟩
theorem itoa_no (z : Int) (c : UInt8) (h : c.toNat < 48) (h2 : c ≠ 45) : c ∉ itoa z := by
  unfold itoa
  split
  · rw [List.mem_cons, not_or]; exact ⟨h2, dec_no _ _ h⟩
  · exact dec_no _ _ h
end Go.Proofs.YtgaehhechonegaaGreatDoor
namespace Go.Proofs.YtgaehhechonegaaGreatDoor
set_option linter.all false
open Go.RowKit
open Go.Lib (decDigits itoa atoiAll)
end Go.Proofs.YtgaehhechonegaaGreatDoor
namespace Go.Proofs.YtgaehhechonegaaGreatDoor
set_option linter.all false
open Go.RowKit
open Go.Lib (index hasPrefix cut indexAny itoa)
end Go.Proofs.YtgaehhechonegaaGreatDoor
namespace Go.Proofs.YtgaehhechonegaaGreatDoor
set_option linter.all false
open Go.RowKit
open Go.Lib (index hasPrefix cut indexAny itoa decDigits)
theorem hasL_no {p s : List UInt8} (h : hasL p s = false) {c : UInt8} (hc : c ∈ p) : c ∉ s := fun hm => by
  have : hasL p s = true := (hasL_iff p s).2 ⟨c, hm, hc⟩
  rw [h] at this; cases this
theorem rightW_parts {w : WhoL} (h : rightW w = true) : hasL [60, 62, 10] w.name = false ∧ hasL [60, 62, 10] w.mail = false ∧ zonB w.zone = true := by
  unfold rightW at h
  rw [hasL_app] at h
  cases h1 : hasL [60, 62, 10] w.name <;> cases h2 : hasL [60, 62, 10] w.mail <;> simp [h1, h2] at h
  exact ⟨rfl, rfl, h.2⟩
theorem textW_shape (w : WhoL) : textW w = w.name ++ 32 :: 60 :: (w.mail ++ 62 :: 32 :: (itoa w.time ++ 32 :: w.zone)) := by simp [textW]
theorem person_cuts {w : WhoL} (h : rightW w = true) : cut (textW w) [32, 60] = (w.name, w.mail ++ 62 :: 32 :: (itoa w.time ++ 32 :: w.zone), true) ∧
    cut (w.mail ++ 62 :: 32 :: (itoa w.time ++ 32 :: w.zone)) [62, 32] = (w.mail, itoa w.time ++ 32 :: w.zone, true) ∧ cut (itoa w.time ++ 32 :: w.zone) [32] = (itoa w.time, w.zone, true) := by
  obtain ⟨h1, h2, h3⟩ := rightW_parts h
  obtain ⟨h4, h5⟩ := rightW_time h
  refine ⟨?_, ?_, ?_⟩
  · rw [textW_shape]; exact cut_2y (hasL_no h1 (by decide)) (by decide)
  · exact cut_2x (hasL_no h2 (by decide))
  · refine cut_1 ?_
    rw [itoa_dec h4]; exact dec_no _ _ (by decide)
theorem person_text {w : WhoL} (h : rightW w = true) : personB (textW w) = true ∧ personW (textW w) = w := by
  obtain ⟨h4, h5⟩ := rightW_time h
  obtain ⟨e1, e2, e3⟩ := person_cuts h
  obtain ⟨e4, e5⟩ := decB_itoa h4 h5
  have hw : personW (textW w) = w := by
    unfold personW
    rw [e1]; simp only; rw [e2]; simp only; rw [e3]; simp only
    rw [show timeN (itoa w.time) = (decN (itoa w.time) : Int) from if_pos e4, e5]
  refine ⟨?_, hw⟩
  unfold personB
  rw [hw, h, e1]; simp only; rw [e2]; simp only; rw [e3]; simp only; rw [e4]; rfl
theorem text_person {s : List UInt8} (h : personB s = true) : rightW (personW s) = true ∧ textW (personW s) = s := by
  unfold personB at h
  simp only [Bool.and_eq_true] at h
  obtain ⟨⟨⟨⟨h1, h2⟩, h3⟩, h4⟩, h5⟩ := h
  refine ⟨h5, ?_⟩
  rw [textW_shape]
  have e1 := cut_t h1
  have e2 := cut_t h2
  have e3 := cut_t h3
  have e4 := itoa_decN h4
  unfold personW
  simp only
  rw [show timeN (cut (cut (cut s [32, 60]).2.1 [62, 32]).2.1 [32]).1 = (decN (cut (cut (cut s [32, 60]).2.1 [62, 32]).2.1 [32]).1 : Int) from if_pos h4, e4]
  simp only [List.cons_append, List.nil_append] at e1 e2 e3
  rw [← e3, ← e2, ← e1]
end Go.Proofs.YtgaehhechonegaaGreatDoor
namespace Go.Proofs.YtgaehhechonegaaGreatDoor
set_option linter.all false
open Go.RowKit
open Go.Lib (index hasPrefix cut indexAny itoa decDigits)
theorem pre_app (w r : List UInt8) : hasPrefix (w ++ r) w = true := by
  show w.isPrefixOf (w ++ r) = true
  rw [List.isPrefixOf_iff_prefix]; exact List.prefix_append w r
theorem pre_iff {s w : List UInt8} : hasPrefix s w = true ↔ ∃ r, s = w ++ r := by
  show w.isPrefixOf s = true ↔ _
  rw [List.isPrefixOf_iff_prefix]
  constructor
  · rintro ⟨r, h⟩; exact ⟨r, h.symm⟩
  · rintro ⟨r, h⟩; exact ⟨r, h.symm⟩
theorem lineG_app {w x r : List UInt8} (h1 : (10 : UInt8) ∉ w) (h2 : (10 : UInt8) ∉ x) : lineG (w ++ (x ++ 10 :: r)) w = some (x, r) := by
  have e : cut (w ++ (x ++ 10 :: r)) [10] = (w ++ x, r, true) := by
    rw [← List.append_assoc]
    exact cut_1 (by rw [List.mem_append]; rintro (h | h); exact h1 h; exact h2 h)
  unfold lineG
  rw [e]
  rw [if_pos ⟨rfl, pre_app w x⟩]
  simp only [List.drop_left]
theorem lineG_inv {s w x r : List UInt8} (h : lineG s w = some (x, r)) : s = w ++ (x ++ 10 :: r) ∧ (10 : UInt8) ∉ x := by
  unfold lineG at h
  split at h
  · rename_i hc
    injection h with h; injection h with h1 h2; subst h1 h2
    obtain ⟨t, ht⟩ := pre_iff.1 hc.2
    have hm := cut_1mem (s := s) (c := 10)
    have hs := cut_t hc.1
    rw [ht] at hm hs ⊢
    rw [List.drop_left]
    exact ⟨by simpa using hs, fun h => hm (List.mem_append_right _ h)⟩
  · cases h
theorem mustG_app {w x r : List UInt8} (b : Bool) (h1 : (10 : UInt8) ∉ w) (h2 : (10 : UInt8) ∉ x) : mustG (w ++ (x ++ 10 :: r)) b w = (x, r, b) := by
  unfold mustG; rw [lineG_app h1 h2]
theorem mustG_inv {s w : List UInt8} {b : Bool} (h : (mustG s b w).2.2 = false) : b = false ∧ s = w ++ ((mustG s b w).1 ++ 10 :: (mustG s b w).2.1) ∧ (10 : UInt8) ∉ (mustG s b w).1 := by
  unfold mustG at h ⊢
  cases hl : lineG s w with
  | none => rw [hl] at h; cases h
  | some p =>
    obtain ⟨x, r⟩ := p
    rw [hl] at h
    exact ⟨h, lineG_inv hl⟩
theorem dv_no10 : ¬ 0 ≤ dv 10 := by unfold dv; decide
theorem hexL_no10 (l : List UInt8) : (10 : UInt8) ∉ hexL l := fun h => dv_no10 (hexL_ok l 10 h)
theorem textW_no10 {w : WhoL} (h : rightW w = true) : (10 : UInt8) ∉ textW w := by
  obtain ⟨h1, h2, h3⟩ := rightW_parts h
  obtain ⟨h4, h5⟩ := rightW_time h
  have hz : (10 : UInt8) ∉ w.zone := by
    intro hm
    unfold zonB at h3
    simp only [Bool.and_eq_true, decide_eq_true_eq, Bool.or_eq_true, List.all_eq_true] at h3
    obtain ⟨⟨g1, g2⟩, g3⟩ := h3
    cases hw : w.zone with
    | nil => rw [hw] at hm; cases hm
    | cons z zs =>
      rw [hw] at hm g2 g3
      rcases List.mem_cons.1 hm with rfl | hm
      · simp at g2
      · have := g3 10 (by simpa using hm)
        exact absurd this (by decide)
  rw [textW_shape, itoa_dec h4]
  simp only [List.mem_append, List.mem_cons, not_or]
  exact ⟨hasL_no h1 (by decide), by decide, by decide, hasL_no h2 (by decide), by decide, by decide, dec_no _ _ (by decide), by decide, hz⟩
theorem parL_shape (p : List UInt8) (r : List UInt8) : parL p ++ r = parW ++ (hexL p ++ 10 :: r) := by simp [parL, parW]
theorem parentsG_app : ∀ (ps : List (List UInt8)) (f : Nat) (r : List UInt8) (acc : List (List UInt8)), ps.length < f → (∀ p ∈ ps, p.length = 20) → hasPrefix r parW = false →
    parentsG f (ps.flatMap parL ++ r) false acc = (r, false, acc ++ ps) := by
  intro ps
  induction ps with
  | nil =>
    intro f r acc hf _ hr
    obtain ⟨f, rfl⟩ : ∃ k, f = k + 1 := ⟨f - 1, by simp only [List.length_nil] at hf; omega⟩
    rw [List.flatMap_nil, List.nil_append, parentsG, if_neg (by rw [hr]; simp), List.append_nil]
  | cons p ps ih =>
    intro f r acc hf hp hr
    obtain ⟨f, rfl⟩ : ∃ k, f = k + 1 := ⟨f - 1, by simp only [List.length_cons] at hf; omega⟩
    simp only [List.length_cons] at hf
    have e : (p :: ps).flatMap parL ++ r = parW ++ (hexL p ++ 10 :: (ps.flatMap parL ++ r)) := by
      rw [List.flatMap_cons, List.append_assoc, parL_shape]
    have hm : mustG (parW ++ (hexL p ++ 10 :: (ps.flatMap parL ++ r))) false parW = (hexL p, ps.flatMap parL ++ r, false) := mustG_app false (by decide) (hexL_no10 p)
    have hl := hp p (List.mem_cons_self ..)
    rw [e, parentsG, if_pos ⟨rfl, pre_app _ _⟩, hm]
    simp only
    rw [hex_good p hl, pOut_hex p hl]
    rw [show (false || !true) = false from rfl, ih f r _ (by omega) (fun q hq => hp q (List.mem_cons_of_mem _ hq)) hr]
    simp
theorem parentsG_inv : ∀ (f : Nat) (s : List UInt8) (b : Bool) (acc : List (List UInt8)), (parentsG f s b acc).2.1 = false →
    b = false ∧ ∃ ps, (parentsG f s b acc).2.2 = acc ++ ps ∧ s = ps.flatMap parL ++ (parentsG f s b acc).1 := by
  intro f
  induction f with
  | zero => intro s b acc h; exact ⟨h, [], by simp [parentsG], by simp [parentsG]⟩
  | succ f ih =>
    intro s b acc h
    by_cases hc : b = false ∧ hasPrefix s parW = true
    · rw [parentsG, if_pos hc] at h ⊢
      obtain ⟨h1, ps, h2, h3⟩ := ih _ _ _ h
      obtain ⟨h4, h5⟩ : (mustG s b parW).2.2 = false ∧ goodQ (mustG s b parW).1 = true := by
        cases g1 : (mustG s b parW).2.2 <;> cases g2 : goodQ (mustG s b parW).1 <;> simp [g1, g2] at h1 ⊢
      obtain ⟨h6, h7, h8⟩ := mustG_inv h4
      refine ⟨h6, pOut (mustG s b parW).1 :: ps, by rw [h2]; simp, ?_⟩
      rw [List.flatMap_cons, List.append_assoc, ← h3, parL_shape, hex_pOut _ h5]
      exact h7
    · rw [parentsG, if_neg hc] at h ⊢
      exact ⟨h, [], by simp, by simp⟩
def sb (v : List UInt8) : List UInt8 := subst1 10 [10, 32] v
theorem exL_shape (x : ExL) (r : List UInt8) : exL x ++ r = x.1 ++ 32 :: (sb x.2 ++ 10 :: r) := by simp [exL, sb]
theorem split10 (v : List UInt8) : (10 : UInt8) ∉ v ∨ ∃ a b, v = a ++ 10 :: b ∧ (10 : UInt8) ∉ a := by
  by_cases h : (10 : UInt8) ∈ v
  · exact .inr (mem_split h)
  · exact .inl h
theorem sb_none {v : List UInt8} (h : (10 : UInt8) ∉ v) : sb v = v := subst1_none h
theorem sb_app {a b : List UInt8} (h : (10 : UInt8) ∉ a) : sb (a ++ 10 :: b) = a ++ 10 :: 32 :: sb b := by
  unfold sb
  rw [subst1_app, subst1_none h, subst1_hit]; rfl
theorem lineG_none {r w : List UInt8} (h : hasPrefix r w = false) : lineG r w = none := by
  cases hl : lineG r w with
  | none => rfl
  | some p =>
    obtain ⟨x, t⟩ := p
    rw [(lineG_inv hl).1, pre_app] at h; cases h
theorem contG_none {f : Nat} {r v : List UInt8} (h : hasPrefix r [32] = false) : contG f r v = (r, v) := by
  cases f with
  | zero => rfl
  | succ f => rw [contG, lineG_none h]
theorem contG_app : ∀ (n : Nat) (v : List UInt8) (f : Nat) (r acc : List UInt8), v.length ≤ n → v.length < f → hasPrefix r [32] = false → contG f (32 :: (sb v ++ 10 :: r)) acc = (r, acc ++ 10 :: v) := by
  intro n
  induction n with
  | zero =>
    intro v f r acc hn hf hr
    obtain rfl : v = [] := List.eq_nil_of_length_eq_zero (by omega)
    obtain ⟨f, rfl⟩ : ∃ k, f = k + 1 := ⟨f - 1, by omega⟩
    have e : lineG ([32] ++ ([] ++ 10 :: r)) [32] = some ([], r) := lineG_app (by decide) (by decide)
    rw [contG, show (32 :: (sb [] ++ 10 :: r)) = [32] ++ ([] ++ 10 :: r) from rfl, e]
    simp only
    rw [contG_none hr]; rfl
  | succ n ih =>
    intro v f r acc hn hf hr
    obtain ⟨f, rfl⟩ : ∃ k, f = k + 1 := ⟨f - 1, by omega⟩
    rcases split10 v with h | ⟨a, b, rfl, ha⟩
    · have e : lineG ([32] ++ (v ++ 10 :: r)) [32] = some (v, r) := lineG_app (by decide) h
      rw [contG, sb_none h, show (32 :: (v ++ 10 :: r)) = [32] ++ (v ++ 10 :: r) from rfl, e]
      simp only
      rw [contG_none hr]; rfl
    · simp only [List.length_append, List.length_cons] at hn hf
      have e : lineG ([32] ++ (a ++ 10 :: (32 :: (sb b ++ 10 :: r)))) [32] = some (a, 32 :: (sb b ++ 10 :: r)) := lineG_app (by decide) ha
      rw [contG, sb_app ha, show (32 :: (a ++ 10 :: 32 :: sb b ++ 10 :: r)) = [32] ++ (a ++ 10 :: (32 :: (sb b ++ 10 :: r))) by simp, e]
      simp only
      rw [ih b f r _ (by omega) (by omega) hr]
      simp
theorem extra1_app {x : ExL} {r : List UInt8} (h : extraB x.1 = true) (hr : hasPrefix r [32] = false) : extra1 (exL x ++ r) = (r, x.2, false, x) := by
  obtain ⟨k, v⟩ := x
  have hk : hasL [32, 10] k = false := by
    unfold extraB at h
    cases g : hasL [32, 10] k
    · rfl
    · rw [g] at h; simp at h
  have k32 : (32 : UInt8) ∉ k := hasL_no hk (by decide)
  have k10 : (10 : UInt8) ∉ k := hasL_no hk (by decide)
  rw [exL_shape]
  simp only
  have no10 : ∀ y : List UInt8, (10 : UInt8) ∉ y → (10 : UInt8) ∉ k ++ 32 :: y := by
    intro y hy
    simp only [List.mem_append, List.mem_cons, not_or]
    exact ⟨k10, by decide, hy⟩
  rcases split10 v with h1 | ⟨a, b, rfl, ha⟩
  · have e : mustG ([] ++ ((k ++ 32 :: v) ++ 10 :: r)) false [] = (k ++ 32 :: v, r, false) := mustG_app false (by decide) (no10 v h1)
    unfold extra1
    rw [sb_none h1, show k ++ 32 :: (v ++ 10 :: r) = [] ++ ((k ++ 32 :: v) ++ 10 :: r) by simp, e]
    simp only
    rw [cut_1 k32]
    simp only
    rw [contG_none hr, h]; rfl
  · have e : mustG ([] ++ ((k ++ 32 :: a) ++ 10 :: (32 :: (sb b ++ 10 :: r)))) false [] = (k ++ 32 :: a, 32 :: (sb b ++ 10 :: r), false) := mustG_app false (by decide) (no10 a ha)
    unfold extra1
    rw [sb_app ha, show k ++ 32 :: (a ++ 10 :: 32 :: sb b ++ 10 :: r) = [] ++ ((k ++ 32 :: a) ++ 10 :: (32 :: (sb b ++ 10 :: r))) by simp, e]
    simp only
    rw [cut_1 k32]
    simp only
    have hsl : b.length ≤ (sb b).length := by
      unfold sb subst1
      clear e h hk k32 k10 no10 hr ha
      induction b with
      | nil => simp
      | cons z b ih =>
        rw [List.flatMap_cons, List.length_append, List.length_cons]
        have : 1 ≤ (if z = 10 then [10, 32] else [z] : List UInt8).length := by split <;> simp
        omega
    rw [contG_app b.length b _ r a (Nat.le_refl _) (by simp only [List.length_append, List.length_cons]; omega) hr, h]; rfl
theorem extraB_head {k r : List UInt8} (h : extraB k = true) : hasPrefix (k ++ 32 :: r) [10] = false ∧ hasPrefix (k ++ 32 :: r) [32] = false := by
  have hk : hasL [32, 10] k = false := by
    unfold extraB at h
    cases g : hasL [32, 10] k
    · rfl
    · rw [g] at h; simp at h
  cases k with
  | nil => exact absurd h (by decide)
  | cons z k =>
    have k32 : (32 : UInt8) ∉ z :: k := hasL_no hk (by decide)
    have k10 : (10 : UInt8) ∉ z :: k := hasL_no hk (by decide)
    constructor
    · rw [Bool.eq_false_iff]; intro hp
      obtain ⟨t, ht⟩ := pre_iff.1 hp
      injection ht with ht _; subst ht
      exact k10 (List.mem_cons_self ..)
    · rw [Bool.eq_false_iff]; intro hp
      obtain ⟨t, ht⟩ := pre_iff.1 hp
      injection ht with ht _; subst ht
      exact k32 (List.mem_cons_self ..)
theorem extrasG_app : ∀ (es : List ExL) (f : Nat) (m : List UInt8) (acc : List ExL), es.length < f → es.any badE = false →
    extrasG f (es.flatMap exL ++ 10 :: m) false acc = (10 :: m, false, acc ++ es) := by
  intro es
  induction es with
  | nil =>
    intro f m acc hf _
    obtain ⟨f, rfl⟩ : ∃ k, f = k + 1 := ⟨f - 1, by simp only [List.length_nil] at hf; omega⟩
    rw [List.flatMap_nil, List.nil_append, extrasG, if_neg (by rw [show (10 :: m) = [10] ++ m from rfl, pre_app]; simp), List.append_nil]
  | cons x es ih =>
    intro f m acc hf hx
    obtain ⟨f, rfl⟩ : ∃ k, f = k + 1 := ⟨f - 1, by simp only [List.length_cons] at hf; omega⟩
    simp only [List.length_cons] at hf
    rw [List.any_cons] at hx
    have hb : extraB x.1 = true := by
      cases g : extraB x.1
      · unfold badE at hx; rw [g] at hx; simp at hx
      · rfl
    have hx2 : es.any badE = false := by
      cases g : es.any badE
      · rfl
      · rw [g] at hx; simp at hx
    have hr : hasPrefix (es.flatMap exL ++ 10 :: m) [32] = false := by
      cases es with
      | nil => rw [Bool.eq_false_iff]; intro hp; obtain ⟨t, ht⟩ := pre_iff.1 hp; injection ht with ht _; exact absurd ht (by decide)
      | cons y es =>
        rw [List.any_cons] at hx2
        have hy : extraB y.1 = true := by
          cases g : extraB y.1
          · unfold badE at hx2; rw [g] at hx2; simp at hx2
          · rfl
        rw [List.flatMap_cons, List.append_assoc, exL_shape]
        exact (extraB_head hy).2
    have h10 : hasPrefix (exL x ++ (es.flatMap exL ++ 10 :: m)) [10] = false := by rw [exL_shape]; exact (extraB_head hb).1
    rw [List.flatMap_cons, List.append_assoc, extrasG, if_pos ⟨rfl, h10⟩, extra1_app hb hr]
    simp only
    rw [ih f m _ (by omega) hx2]
    simp
theorem contG_inv : ∀ (f : Nat) (r v : List UInt8), ∃ y, (contG f r v).2 = v ++ y ∧ 10 :: r = sb y ++ 10 :: (contG f r v).1 := by
  intro f
  induction f with
  | zero => intro r v; exact ⟨[], by simp [contG], rfl⟩
  | succ f ih =>
    intro r v
    rw [contG]
    cases hl : lineG r [32] with
    | none => exact ⟨[], by simp, rfl⟩
    | some p =>
      obtain ⟨m, r1⟩ := p
      obtain ⟨h1, h2⟩ := lineG_inv hl
      obtain ⟨y, h3, h4⟩ := ih r1 (v ++ ([10] ++ m))
      refine ⟨10 :: (m ++ y), by simp only; rw [h3]; simp, ?_⟩
      simp only
      have e : sb (10 :: (m ++ y)) = 10 :: 32 :: (m ++ sb y) := by
        unfold sb; rw [subst1_hit, subst1_app, subst1_none h2]; rfl
      rw [e, h1]
      simp only [List.cons_append, List.append_assoc, List.nil_append] at h4 ⊢
      rw [← h4]
theorem extra1_inv {s : List UInt8} (h : (extra1 s).2.2.1 = false) : extraB (extra1 s).2.2.2.1 = true ∧ s = exL (extra1 s).2.2.2 ++ (extra1 s).1 := by
  unfold extra1 at h ⊢
  simp only at h ⊢
  obtain ⟨⟨h1, h2⟩, h3⟩ : ((mustG s false []).2.2 = false ∧ (cut (mustG s false []).1 [32]).2.2 = true) ∧ extraB (cut (mustG s false []).1 [32]).1 = true := by
    cases g1 : (mustG s false []).2.2 <;> cases g2 : (cut (mustG s false []).1 [32]).2.2 <;> cases g3 : extraB (cut (mustG s false []).1 [32]).1 <;> simp [g1, g2, g3] at h ⊢
  obtain ⟨_, h5, h6⟩ := mustG_inv h1
  have h7 := cut_t h2
  obtain ⟨y, h8, h9⟩ := contG_inv ((mustG s false []).2.1.length + 1) (mustG s false []).2.1 (cut (mustG s false []).1 [32]).2.1
  refine ⟨h3, ?_⟩
  rw [exL_shape]
  simp only
  have hn : (10 : UInt8) ∉ (cut (mustG s false []).1 [32]).2.1 := by
    intro hm; apply h6; rw [h7]
    exact List.mem_append_right _ (List.mem_append_right _ hm)
  rw [h8, show sb ((cut (mustG s false []).1 [32]).2.1 ++ y) = (cut (mustG s false []).1 [32]).2.1 ++ sb y by unfold sb; rw [subst1_app, subst1_none hn], List.append_assoc, ← h9]
  conv => lhs; rw [h5]
  rw [List.nil_append]
  conv => lhs; rw [h7]
  simp
theorem extrasG_inv : ∀ (f : Nat) (s : List UInt8) (b : Bool) (acc : List ExL), (extrasG f s b acc).2.1 = false →
    b = false ∧ ∃ es, (extrasG f s b acc).2.2 = acc ++ es ∧ es.any badE = false ∧ s = es.flatMap exL ++ (extrasG f s b acc).1 := by
  intro f
  induction f with
  | zero => intro s b acc h; exact ⟨h, [], by simp [extrasG], rfl, by simp [extrasG]⟩
  | succ f ih =>
    intro s b acc h
    by_cases hc : b = false ∧ hasPrefix s [10] = false
    · rw [extrasG, if_pos hc] at h ⊢
      obtain ⟨h1, es, h2, h3, h4⟩ := ih _ _ _ h
      obtain ⟨h5, h6⟩ := extra1_inv h1
      refine ⟨hc.1, (extra1 s).2.2.2 :: es, by rw [h2]; simp, by rw [List.any_cons, h3]; unfold badE; rw [h5]; rfl, ?_⟩
      rw [List.flatMap_cons, List.append_assoc, ← h4, ← h6]
    · rw [extrasG, if_neg hc] at h ⊢
      exact ⟨h, [], by simp, rfl, by simp⟩
theorem bodyC_shape (c : ComL) : bodyC c = treW ++ (hexL c.tree ++ 10 :: (c.parents.flatMap parL ++ (autW ++ (textW c.author ++ 10 :: (comW ++ (textW c.committer ++ 10 :: (c.extras.flatMap exL ++ 10 :: c.message))))))) := by
  simp [bodyC, printC, headC, midC, treW, autW, comW]
theorem rightC_parts {c : ComL} (h : rightC c = true) : rightW c.author = true ∧ rightW c.committer = true ∧ c.extras.any badE = false := by
  unfold rightC at h
  cases h1 : rightW c.author <;> cases h2 : rightW c.committer <;> cases h3 : c.extras.any badE <;> simp [h1, h2, h3] at h ⊢
theorem personV_text {w : WhoL} (h : rightW w = true) : personB (textW w) = true ∧ personV (textW w) = w := by
  obtain ⟨h1, h2⟩ := person_text h
  exact ⟨h1, by unfold personV; rw [if_pos h1, h2]⟩
theorem wgt_app {α : Type} (g : α → List UInt8) (hg : ∀ x, 0 < (g x).length) (l : List α) (r : List UInt8) : l.length < wgt (l.flatMap g ++ r) false + 1 := by
  have : l.length ≤ (l.flatMap g).length := by
    induction l with
    | nil => simp
    | cons x l ih => have := hg x; rw [List.flatMap_cons, List.length_append, List.length_cons]; omega
  unfold wgt
  rw [List.length_append]; omega
theorem com_body {c : ComL} (h : rightC c = true) (h20 : c.tree.length = 20) (hp : ∀ p ∈ c.parents, p.length = 20) : parB11 (bodyC c) = true ∧ parC11 (bodyC c) = c := by
  obtain ⟨h1, h2, h3⟩ := rightC_parts h
  obtain ⟨h4, h5⟩ := personV_text h1
  obtain ⟨h6, h7⟩ := personV_text h2
  generalize hs : bodyC c = s
  rw [bodyC_shape] at hs
  obtain ⟨r4, e4⟩ : ∃ r, r = c.extras.flatMap exL ++ 10 :: c.message := ⟨_, rfl⟩
  obtain ⟨r3, e3⟩ : ∃ r, r = comW ++ (textW c.committer ++ 10 :: r4) := ⟨_, rfl⟩
  obtain ⟨r2, e2⟩ : ∃ r, r = autW ++ (textW c.author ++ 10 :: r3) := ⟨_, rfl⟩
  obtain ⟨r1, e1⟩ : ∃ r, r = c.parents.flatMap parL ++ r2 := ⟨_, rfl⟩
  rw [← e4, ← e3, ← e2, ← e1] at hs
  have eM : pM s = (hexL c.tree, r1, false) := by
    unfold pM; rw [← hs]; exact mustG_app false (by decide) (hexL_no10 _)
  have eB0 : pB0 s = false := by unfold pB0; rw [eM, hex_good _ h20]; rfl
  have eP : pP s = (r2, false, c.parents) := by
    unfold pP; rw [eB0, eM]; simp only; rw [e1]
    refine parentsG_app c.parents _ _ [] (wgt_app parL (fun p => by simp [parL]) _ _) hp ?_
    rw [Bool.eq_false_iff]; intro hp
    obtain ⟨t, ht⟩ := pre_iff.1 hp
    rw [e2] at ht
    injection ht with ht _; exact absurd ht (by decide)
  have eA : pA s = (textW c.author, r3, false) := by
    unfold pA; rw [eP]; simp only; rw [e2]; exact mustG_app false (by decide) (textW_no10 h1)
  have eB1 : pB1 s = false := by unfold pB1; rw [eA]; simp only; rw [h4]; rfl
  have eC : pC s = (textW c.committer, r4, false) := by
    unfold pC; rw [eA, eB1]; simp only; rw [e3]; exact mustG_app false (by decide) (textW_no10 h2)
  have eB2 : pB2 s = false := by unfold pB2; rw [eC]; simp only; rw [h6]; rfl
  have eE : pE s = (10 :: c.message, false, c.extras) := by
    unfold pE; rw [eB2, eC]; simp only; rw [e4]
    exact extrasG_app c.extras _ c.message [] (wgt_app exL (fun x => by simp [exL]; omega) _ _) h3
  have eL : pL s = ([], c.message, false) := by
    unfold pL; rw [eE]
    exact mustG_app (w := []) (x := []) false (by decide) (by decide)
  constructor
  · unfold parB11; rw [eL]; rfl
  · unfold parC11
    rw [eM, eP, eA, eC, eE, eL]
    simp only
    rw [h5, h7, pOut_hex _ h20]
theorem parC11_len (s : List UInt8) : (parC11 s).tree.length = 20 ∧ ∀ p ∈ (parC11 s).parents, p.length = 20 := by
  refine ⟨pOut_len _, ?_⟩
  exact parentsG_len (wgt (pM s).2.1 (pB0 s) + 1) (pM s).2.1 (pB0 s) [] ⟨parentsG_len.parentsG_l _ _ _ _, by simp⟩
theorem body_com {s : List UInt8} (h : parB11 s = true) : rightC (parC11 s) = true ∧ bodyC (parC11 s) = s := by
  obtain ⟨l1, l2⟩ : (pL s).2.2 = false ∧ (pL s).1 = [] := by
    unfold parB11 at h
    cases g : (pL s).2.2 <;> simp [g] at h ⊢
    exact h
  obtain ⟨e1, e2, -⟩ := mustG_inv (s := (pE s).1) (b := (pE s).2.1) (w := []) l1
  have e2 : (pE s).1 = [] ++ ((pL s).1 ++ 10 :: (pL s).2.1) := e2
  obtain ⟨b2, es, f1, f2, f3⟩ := extrasG_inv _ _ _ _ e1
  have f1 : (pE s).2.2 = [] ++ es := f1
  have f3 : (pC s).2.1 = es.flatMap exL ++ (pE s).1 := f3
  obtain ⟨c1, c2⟩ : (pC s).2.2 = false ∧ personB (pC s).1 = true := by
    unfold pB2 at b2
    cases g1 : (pC s).2.2 <;> cases g2 : personB (pC s).1 <;> simp [g1, g2] at b2 ⊢
  obtain ⟨b1, c3, -⟩ := mustG_inv (s := (pA s).2.1) (b := pB1 s) (w := comW) c1
  have c3 : (pA s).2.1 = comW ++ ((pC s).1 ++ 10 :: (pC s).2.1) := c3
  obtain ⟨a1, a2⟩ : (pA s).2.2 = false ∧ personB (pA s).1 = true := by
    unfold pB1 at b1
    cases g1 : (pA s).2.2 <;> cases g2 : personB (pA s).1 <;> simp [g1, g2] at b1 ⊢
  obtain ⟨p1, a3, -⟩ := mustG_inv (s := (pP s).1) (b := (pP s).2.1) (w := autW) a1
  have a3 : (pP s).1 = autW ++ ((pA s).1 ++ 10 :: (pA s).2.1) := a3
  obtain ⟨b0, ps, q1, q2⟩ := parentsG_inv _ _ _ _ p1
  have q1 : (pP s).2.2 = [] ++ ps := q1
  have q2 : (pM s).2.1 = ps.flatMap parL ++ (pP s).1 := q2
  obtain ⟨m1, m2⟩ : (pM s).2.2 = false ∧ goodQ (pM s).1 = true := by
    unfold pB0 at b0
    cases g1 : (pM s).2.2 <;> cases g2 : goodQ (pM s).1 <;> simp [g1, g2] at b0 ⊢
  obtain ⟨-, m3, -⟩ := mustG_inv (s := s) (b := false) (w := treW) m1
  have m3 : s = treW ++ ((pM s).1 ++ 10 :: (pM s).2.1) := m3
  obtain ⟨t1, t2⟩ := text_person a2
  obtain ⟨t3, t4⟩ := text_person c2
  have v1 : personV (pA s).1 = personW (pA s).1 := if_pos a2
  have v2 : personV (pC s).1 = personW (pC s).1 := if_pos c2
  constructor
  · unfold rightC parC11
    simp only
    rw [v1, v2, t1, t3, f1, List.nil_append, f2]; rfl
  · rw [bodyC_shape]
    unfold parC11
    simp only
    rw [v1, v2, t2, t4, hex_pOut _ m2, f1, q1, List.nil_append, List.nil_append]
    rw [l2, List.nil_append, List.nil_append] at e2
    conv => rhs; rw [m3, q2, a3, c3, f3, e2]
end Go.Proofs.YtgaehhechonegaaGreatDoor
namespace Go.Proofs.YtgaehhechonegaaGreatDoor
set_option linter.all false
open Go.RowKit
open Go.Lib (index hasPrefix cut indexAny itoa decDigits)
end Go.Proofs.YtgaehhechonegaaGreatDoor
namespace Go.Proofs.YtgaehhechonegaaGreatDoor
set_option linter.all false
open Go.RowKit
open Go.Lib (index hasPrefix cut indexAny itoa decDigits)
def cont1 (acc : List ExL) (v : List UInt8) : List ExL := acc.set (acc.length - 1) ((acc.getD (acc.length - 1) ([], [])).1, (acc.getD (acc.length - 1) ([], [])).2 ++ [10] ++ v)
theorem cont1_app (acc : List ExL) (k w v : List UInt8) : cont1 (acc ++ [(k, w)]) v = acc ++ [(k, w ++ 10 :: v)] := by
  unfold cont1
  have e : (acc ++ [(k, w)]).length - 1 = acc.length := by simp
  rw [e]
  have e2 : (acc ++ [(k, w)]).getD acc.length ([], []) = (k, w) := by simp [List.getD_eq_getElem?_getD]
  rw [e2, List.set_append_right _ _ (Nat.le_refl _), Nat.sub_self, List.set_cons_zero]
  simp
end Go.Proofs.YtgaehhechonegaaGreatDoor
namespace Go.Proofs.YtgaehhechonegaaGreatDoor
set_option linter.all false
open Go.Lib (index indexByte splitK count countB splitB cut indexAny)
def psl (c : UInt8) : List UInt8 → List (List UInt8)
  | [] => [[]]
  | b :: r => if b = c then [] :: psl c r else match psl c r with
    | h :: t => (b :: h) :: t
    | [] => [[b]]
theorem psl_ne (c : UInt8) : ∀ l, psl c l ≠ []
  | [] => by simp [psl]
  | b :: r => by
    unfold psl
    split
    · simp
    · split <;> simp
theorem psl_cons_ne {c b : UInt8} (h : b ≠ c) (r : List UInt8) : ∃ x t, psl c r = x :: t ∧ psl c (b :: r) = (b :: x) :: t := by
  cases hp : psl c r with
  | nil => exact absurd hp (psl_ne c r)
  | cons x t => exact ⟨x, t, rfl, by rw [psl, if_neg h, hp]⟩
theorem psl_cons_eq (c : UInt8) (r : List UInt8) : psl c (c :: r) = [] :: psl c r := by rw [psl, if_pos rfl]
theorem splitK_psl (c : UInt8) : ∀ l : List UInt8, splitK [c] 0 (count l [c]) l = psl c l
  | [] => by
    rw [Go.Lib.count_miss (by simp [index])]; rfl
  | b :: l => by
    have ih := splitK_psl c l
    by_cases h : b = c
    · subst h
      have hix : index (b :: l) [b] = 0 := by rw [index]; simp [List.isPrefixOf]
      rw [Go.Lib.count_cons_eq, Nat.add_comm, splitK, hix, if_neg (by decide), psl_cons_eq, ← ih]
      simp
    · obtain ⟨x, t, e1, e2⟩ := psl_cons_ne h l
      have hp : ([c] : List UInt8).isPrefixOf (b :: l) = false := by simp [List.isPrefixOf, Ne.symm h]
      have hix : index (b :: l) [c] = if index l [c] == -1 then -1 else index l [c] + 1 := by rw [index, hp]; simp
      rw [Go.Lib.count_cons_ne b c l h, e2]
      rw [e1] at ih
      by_cases hm : index l [c] = -1
      · rw [Go.Lib.count_miss hm] at ih ⊢
        simp only [splitK, List.cons.injEq] at ih ⊢
        exact ⟨⟨trivial, ih.1⟩, ih.2⟩
      · have hge := Go.Lib.index_ge l [c]
        obtain ⟨j, hj⟩ : ∃ j : Nat, index l [c] = j := ⟨(index l [c]).toNat, by omega⟩
        rw [Go.Lib.count_hit (by simp) hj, Nat.add_comm] at ih ⊢
        have hix' : index (b :: l) [c] = ((j + 1 : Nat) : Int) := by rw [hix, if_neg (fun e => hm (beq_iff_eq.1 e)), hj]; omega
        rw [splitK, hj, if_neg (fun e => hm (by rw [hj]; exact beq_iff_eq.1 e))] at ih
        rw [splitK, hix', if_neg (fun e => by have := beq_iff_eq.1 e; omega)]
        simp only [List.length_cons, List.length_nil, Nat.zero_add, Nat.add_zero, Int.toNat_natCast, List.cons.injEq, List.take_succ_cons, List.drop_succ_cons] at ih ⊢
        exact ⟨⟨trivial, ih.1⟩, ih.2⟩
theorem psl_join_len (c : UInt8) : ∀ l : List UInt8, (psl c l).length ≤ l.length + 1
  | [] => by simp [psl]
  | b :: l => by
    have ih := psl_join_len c l
    by_cases h : b = c
    · subst h; rw [psl_cons_eq]; simp; omega
    · obtain ⟨x, t, e1, e2⟩ := psl_cons_ne h l
      rw [e2]; rw [e1] at ih; simp at ih ⊢; omega
def pre1 (acc : List UInt8) : List (List UInt8) → List (List UInt8)
  | [] => [acc]
  | h :: t => (acc ++ h) :: t
def badP (q : List UInt8) : Bool := decide (q = []) || decide (q = [46]) || decide (q = [46, 46])
def ctlB (c : UInt8) : Bool := decide (c = 0) || decide (c = 10) || decide (c = 13)
def rightP (p : List UInt8) : Bool := !decide (255 < p.length) && !p.any ctlB && !(psl 47 p).any badP
theorem indexAny_nn (chars : List UInt8) : ∀ s : List UInt8, (decide (0 ≤ indexAny s chars)) = s.any fun b => chars.contains b
  | [] => rfl
  | b :: l => by
    have ih := indexAny_nn chars l
    have hg := Go.Lib.indexAny_ge chars l
    have hd : indexAny (b :: l) chars = if chars.contains b then 0 else if indexAny l chars == -1 then -1 else indexAny l chars + 1 := by rw [indexAny]
    rw [List.any_cons, ← ih, hd]
    cases hb : chars.contains b with
    | true => simp
    | false =>
      simp only [Bool.false_or, Bool.false_eq_true, if_false]
      by_cases h : indexAny l chars = -1
      · rw [if_pos (beq_iff_eq.2 h), h]
      · rw [if_neg (by simpa using h)]
        rw [Bool.eq_iff_iff]; simp; omega
end Go.Proofs.YtgaehhechonegaaGreatDoor
namespace Go.Proofs.YtgaehhechonegaaGreatDoor
set_option linter.all false
open Go.RowKit
open Go.Lib (index hasPrefix cut indexAny itoa decDigits)
structure ChgL where
  man : List UInt8
  user : List UInt8
  time : Int
  zone : Int
  extras : List ExL
  files : List (List UInt8)
  desc : List UInt8
def keyC (c : UInt8) : Bool := (decide (97 ≤ c.toNat) && decide (c.toNat ≤ 122)) || (decide (65 ≤ c.toNat) && decide (c.toNat ≤ 90)) || (decide (48 ≤ c.toNat) && decide (c.toNat ≤ 57)) || decide (c.toNat = 45) || decide (c.toNat = 95)
def keyedB (s : List UInt8) : Bool := decide (s ≠ []) && decide (s.length ≤ 100) && s.all keyC
def ascB : List (List UInt8) → Bool
  | [] => true
  | [_] => true
  | a :: b :: r => Op.bytesLess a b && ascB (b :: r)
def rightH (c : ChgL) : Bool := decide (c.user ≠ []) && !c.user.contains 10 && decide (0 ≤ c.time) && decide (c.time < 4611686018427387904) && decide (-86399 ≤ c.zone) && decide (c.zone ≤ 86399) &&
  (c.extras.all fun x => keyedB x.1) && ascB (c.extras.map Prod.fst) && c.files.all rightP && ascB c.files
def escC (c : UInt8) : List UInt8 := if c = 92 then [92, 92] else if c = 10 then [92, 110] else if c = 13 then [92, 114] else if c = 0 then [92, 48] else [c]
def tolL (v : List UInt8) : List UInt8 := v.flatMap escC
def joinB (c : UInt8) : List (List UInt8) → List UInt8
  | [] => []
  | x :: xs => x ++ xs.flatMap (c :: ·)
def exT (x : ExL) : List UInt8 := x.1 ++ 58 :: tolL x.2
def exsT : List ExL → List UInt8
  | [] => []
  | x :: xs => 32 :: joinB 0 ((x :: xs).map exT)
def fileT (f : List UInt8) : List UInt8 := f ++ [10]
def dateT (c : ChgL) : List UInt8 := itoa c.time ++ 32 :: (itoa c.zone ++ exsT c.extras)
def bodyH (c : ChgL) : List UInt8 := hexL c.man ++ 10 :: (c.user ++ 10 :: (dateT c ++ 10 :: (c.files.flatMap fileT ++ 10 :: c.desc)))
def q1 (s : List UInt8) := cut s [10]
def q2 (s : List UInt8) := cut (q1 s).2.1 [10]
def q3 (s : List UInt8) := cut (q2 s).2.1 [10]
theorem cut1_t {s : List UInt8} {c : UInt8} (h : (cut s [c]).2.2 = true) : s = (cut s [c]).1 ++ c :: (cut s [c]).2.1 := cut_t h
theorem keyC_no {k : List UInt8} (h : keyedB k = true) {c : UInt8} (hc : keyC c = false) : c ∉ k := by
  unfold keyedB at h
  simp only [Bool.and_eq_true, List.all_eq_true] at h
  intro hm
  have := h.2 c hm
  rw [hc] at this; cases this
structure RightH (c : ChgL) : Prop where
  user : c.user ≠ [] ∧ (10 : UInt8) ∉ c.user
  time : 0 ≤ c.time ∧ c.time < 4611686018427387904
  zone : -86399 ≤ c.zone ∧ c.zone ≤ 86399
  keys : ∀ x ∈ c.extras, keyedB x.1 = true
  paths : ∀ f ∈ c.files, rightP f = true
theorem rightH_of {c : ChgL} (h : rightH c = true) : RightH c := by
  unfold rightH at h
  simp only [Bool.and_eq_true, decide_eq_true_eq, List.all_eq_true, Bool.not_eq_true'] at h
  obtain ⟨⟨⟨⟨⟨⟨⟨⟨⟨h1, h2⟩, h3⟩, h4⟩, h5⟩, h6⟩, h7⟩, h8⟩, h9⟩, h10⟩ := h
  exact ⟨⟨h1, fun hm => by rw [List.contains_iff_mem.2 hm] at h2; cases h2⟩, ⟨h3, h4⟩, ⟨h5, h6⟩, h7, h9⟩
end Go.Proofs.YtgaehhechonegaaGreatDoor
namespace Go.Proofs.YtgaehhechonegaaGreatDoor
set_option linter.all false
open Go.RowKit
open Go.Lib (index hasPrefix cut indexAny itoa decDigits)
end Go.Proofs.YtgaehhechonegaaGreatDoor
