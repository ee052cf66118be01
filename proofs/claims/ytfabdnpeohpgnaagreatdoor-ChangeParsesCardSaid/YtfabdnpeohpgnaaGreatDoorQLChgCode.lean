import Derived.Test.YtfabdnpeohpgnaaGreatDoorChecked
import Derived.Test.YtfabdnpeohpgnaaGreatDoorQAMS
import Derived.Test.YtfabdnpeohpgnaaGreatDoorQFRChg3
import Derived.Test.YtfabdnpeohpgnaaGreatDoorQFGPrn
namespace Go.Proofs.YtfabdnpeohpgnaaGreatDoor
set_option linter.all false
open Go.RowKit
def b_glof_0 : ACode := (.seq (.seq (.reg none [⟨(some 16), (.mv (.t 4)), none⟩, ⟨(some 17), (.fa 23 (.t 1)), none⟩, ⟨(some 18), (.ld (.one (.con (.slice none 0 0))) (.t 17)), none⟩, ⟨(some 19), (.len none false (.t 18)), none⟩, ⟨(some 20), (.bin .lss (.t 16) (.t 19)), none⟩]) (.cond (.t 20) .skip (.exit 0))) (.seq (.block 1 (.reg (some [(0, false), (1, false), (2, false), (3, false), (4, false), (5, false), (6, false), (7, false), (8, false), (9, false), (10, false), (11, false), (12, false), (13, false), (14, false), (15, false), (16, true), (17, true), (18, true)]) [⟨(some 23), (.fa 23 (.t 3)), none⟩, ⟨(some 24), (.ld (.one (.con (.slice none 0 0))) (.t 23)), none⟩, ⟨(some 25), (.fa 23 (.t 1)), none⟩, ⟨(some 26), (.ld (.one (.con (.slice none 0 0))) (.t 25)), none⟩, ⟨(some 27), (.mv (.t 4)), none⟩, ⟨(some 28), (.ia 2 (.agg [(1, (.str [])), (1, (.str []))]) (.t 26) (.t 27)), none⟩, ⟨(some 29), (.fa 0 (.t 28)), none⟩, ⟨(some 30), (.ld (.one (.str [])) (.t 29)), none⟩, ⟨(some 31), (.fa 23 (.t 1)), none⟩, ⟨(some 32), (.ld (.one (.con (.slice none 0 0))) (.t 31)), none⟩, ⟨(some 33), (.mv (.t 4)), none⟩, ⟨(some 34), (.ia 2 (.agg [(1, (.str [])), (1, (.str []))]) (.t 32) (.t 33)), none⟩, ⟨(some 35), (.fa 1 (.t 34)), none⟩, ⟨(some 36), (.ld (.one (.str [])) (.t 35)), none⟩, ⟨(some 37), (.build [(1, (.str [])), (1, (.str []))] [(0, (1, (.t 30))), (1, (1, (.t 36)))]), none⟩, ⟨(some 38), (.buildSl 47 2 [(.t 37)]), none⟩, ⟨(some 39), (.app 47 2 32 (.t 24) (.t 38)), none⟩, ⟨(some 40), (.fa 23 (.t 3)), none⟩, ⟨none, (.st (.one (.con (.slice none 0 0))) (.t 40) (.t 39)), none⟩])) (.reg none [⟨(some 21), (.mv (.t 4)), none⟩, ⟨(some 22), (.bin .add (.t 21) (.c (.int .i64 1))), none⟩, ⟨(some 4), (.mv (.t 22)), none⟩])))
def t_glof_0 : ACode := (.seq (.reg none [⟨(some 41), (.fa 24 (.t 3)), none⟩, ⟨(some 42), (.ld (.one (.con (.slice none 0 0))) (.t 41)), none⟩, ⟨(some 43), (.fa 24 (.t 1)), none⟩, ⟨(some 44), (.ld (.one (.con (.slice none 0 0))) (.t 43)), none⟩, ⟨(some 45), (.app 9 1 16 (.t 42) (.t 44)), none⟩, ⟨(some 46), (.fa 24 (.t 3)), none⟩, ⟨none, (.st (.one (.con (.slice none 0 0))) (.t 46) (.t 45)), none⟩]) (.seq (.reg none [⟨(some 47), (.ld (.st 26) (.t 3)), none⟩, ⟨none, (.st (.st 26) (.t 2) (.t 47)), none⟩]) .ret))
def c_glof : ACode := (.seq (.reg none [⟨(some 1), (.box 30 26 (.t 0)), none⟩, ⟨(some 2), (.new 26 [(20, (.blob (List.replicate 20 (.int .u8 0)))), (1, (.str [])), (1, (.int .i64 0)), (1, (.int .i64 0)), (1, (.con (.slice none 0 0))), (1, (.con (.slice none 0 0))), (1, (.str []))]), none⟩]) (.seq (.reg none [⟨(some 5), (.fa 0 (.t 1)), none⟩, ⟨(some 6), (.ld (.arr 20) (.t 5)), none⟩, ⟨(some 7), (.fa 20 (.t 1)), none⟩, ⟨(some 8), (.ld (.one (.str [])) (.t 7)), none⟩, ⟨(some 9), (.fa 21 (.t 1)), none⟩, ⟨(some 10), (.ld (.one (.int .i64 0)) (.t 9)), none⟩, ⟨(some 11), (.fa 22 (.t 1)), none⟩, ⟨(some 12), (.ld (.one (.int .i64 0)) (.t 11)), none⟩, ⟨(some 13), (.fa 25 (.t 1)), none⟩, ⟨(some 14), (.ld (.one (.str [])) (.t 13)), none⟩, ⟨(some 15), (.build [(20, (.blob (List.replicate 20 (.int .u8 0)))), (1, (.str [])), (1, (.int .i64 0)), (1, (.int .i64 0)), (1, (.con (.slice none 0 0))), (1, (.con (.slice none 0 0))), (1, (.str []))] [(0, (20, (.t 6))), (20, (1, (.t 8))), (21, (1, (.t 10))), (22, (1, (.t 12))), (25, (1, (.t 14)))]), none⟩, ⟨(some 3), (.new 26 [(20, (.blob (List.replicate 20 (.int .u8 0)))), (1, (.str [])), (1, (.int .i64 0)), (1, (.int .i64 0)), (1, (.con (.slice none 0 0))), (1, (.con (.slice none 0 0))), (1, (.str []))]), none⟩, ⟨none, (.st (.st 26) (.t 3) (.t 15)), none⟩]) (.seq (.seq (.reg none [⟨(some 4), (.mv (.c (.int .i64 0))), none⟩]) (.block 0 (.loop b_glof_0))) t_glof_0)))
def r_glof : List ARes := [(.c 2 (.st 26))]
theorem s_glof : slimF Tryz.prog Tryz.f6 = some (c_glof, r_glof) := by kernel_rfl
def c_gknown : ACode := (.seq (.reg none [⟨(some 0), (.mv (.c (.bool false))), none⟩]) (.seq (.reg none [⟨(some 6), (.build [(1, (.str [])), (1, (.str []))] [(0, (1, (.c (.str [98, 114, 97, 110, 99, 104])))), (1, (1, (.c (.str [120, 10]))))]), none⟩, ⟨(some 7), (.buildSl 48 2 [(.t 6)]), none⟩, ⟨(some 8), (.buildSl 9 1 [(.c (.str [97]))]), none⟩, ⟨(some 9), (.build [(20, (.blob (List.replicate 20 (.int .u8 0)))), (1, (.str [])), (1, (.int .i64 0)), (1, (.int .i64 0)), (1, (.con (.slice none 0 0))), (1, (.con (.slice none 0 0))), (1, (.str []))] [(20, (1, (.c (.str [117])))), (23, (1, (.t 7))), (24, (1, (.t 8))), (25, (1, (.c (.str [100]))))]), none⟩, ⟨(some 10), (.call 7 [(.t 9)]), none⟩, ⟨(some 5), (.mv (.t 10)), none⟩, ⟨(some 11), (.ext (.t 5) 0), none⟩, ⟨(some 12), (.ext (.t 5) 1), none⟩, ⟨(some 1), (.mv (.t 11)), none⟩, ⟨(some 2), (.mv (.t 12)), none⟩]) (.seq (.reg none [⟨(some 14), (.mv (.t 1)), none⟩, ⟨(some 15), (.call 12 [(.t 14)]), none⟩, ⟨(some 13), (.mv (.t 15)), none⟩, ⟨(some 16), (.ext (.t 13) 0), none⟩, ⟨(some 17), (.ext (.t 13) 1), none⟩, ⟨(some 3), (.new 30 [(20, (.blob (List.replicate 20 (.int .u8 0)))), (1, (.str [])), (1, (.int .i64 0)), (1, (.int .i64 0)), (1, (.con (.slice none 0 0))), (1, (.con (.slice none 0 0))), (1, (.str []))]), none⟩, ⟨none, (.st (.st 26) (.t 3) (.t 16)), none⟩, ⟨(some 4), (.mv (.t 17)), none⟩]) (.seq (.reg none [⟨(some 18), (.mv (.t 2)), none⟩, ⟨(some 19), (.bin .eql (.t 18) (.c (.int .i64 0))), none⟩, ⟨(some 20), (.mv (.t 19)), none⟩, ⟨(some 21), (.mv (.t 1)), (some (20, true))⟩, ⟨(some 22), (.len none false (.t 21)), (some (20, true))⟩, ⟨(some 23), (.bin .gtr (.t 22) (.c (.int .i64 43))), (some (20, true))⟩, ⟨(some 24), (.pick (.t 20) (.t 23) (.c (.bool false))), none⟩, ⟨(some 25), (.mv (.t 24)), none⟩, ⟨(some 26), (.mv (.t 1)), (some (25, true))⟩, ⟨(some 27), (.sl 1 (.t 26) (some (.c (.int .i64 40))) none), (some (25, true))⟩, ⟨(some 28), (.toStr (.t 27)), (some (25, true))⟩, ⟨(some 29), (.bin .eql (.t 28) (.c (.str [10, 117, 10, 48, 32, 48, 32, 98, 114, 97, 110, 99, 104, 58, 120, 92, 110, 10, 97, 10, 10, 100]))), (some (25, true))⟩, ⟨(some 30), (.pick (.t 25) (.t 29) (.c (.bool false))), none⟩, ⟨(some 31), (.mv (.t 30)), none⟩, ⟨(some 32), (.mv (.t 4)), (some (31, true))⟩, ⟨(some 33), (.bin .eql (.t 32) (.c (.int .i64 0))), (some (31, true))⟩, ⟨(some 34), (.pick (.t 31) (.t 33) (.c (.bool false))), none⟩, ⟨(some 35), (.mv (.t 34)), none⟩, ⟨(some 36), (.fa 25 (.t 3)), (some (35, true))⟩, ⟨(some 37), (.ld (.one (.str [])) (.t 36)), (some (35, true))⟩, ⟨(some 38), (.bin .eql (.t 37) (.c (.str [100]))), (some (35, true))⟩, ⟨(some 39), (.pick (.t 35) (.t 38) (.c (.bool false))), none⟩, ⟨(some 40), (.mv (.t 39)), none⟩, ⟨(some 41), (.fa 23 (.t 3)), (some (40, true))⟩, ⟨(some 42), (.ld (.one (.con (.slice none 0 0))) (.t 41)), (some (40, true))⟩, ⟨(some 43), (.len none false (.t 42)), (some (40, true))⟩, ⟨(some 44), (.bin .eql (.t 43) (.c (.int .i64 1))), (some (40, true))⟩, ⟨(some 45), (.pick (.t 40) (.t 44) (.c (.bool false))), none⟩, ⟨(some 0), (.mv (.t 45)), none⟩]) .ret))))
def r_gknown : List ARes := [(.t 0)]
theorem s_gknown : slimF Tryz.prog Tryz.f9 = some (c_gknown, r_gknown) := by kernel_rfl
def c_glparses : ACode := (.seq (.reg none [⟨(some 2), (.mv (.c (.bool false))), none⟩]) (.seq (.reg none [⟨(some 8), (.mv (.t 0)), none⟩, ⟨(some 9), (.mv (.t 0)), none⟩, ⟨(some 10), (.len none false (.t 9)), none⟩, ⟨(some 11), (.mm false (.t 10) (.c (.int .i64 2000))), none⟩, ⟨(some 12), (.sl 1 (.t 8) none (some (.t 11))), none⟩, ⟨(some 0), (.mv (.t 12)), none⟩]) (.seq (.reg none [⟨(some 13), (.mv (.t 0)), none⟩, ⟨(some 14), (.toStr (.t 13)), none⟩, ⟨(some 3), (.mv (.t 14)), none⟩]) (.seq (.reg none [⟨(some 16), (.mv (.t 0)), none⟩, ⟨(some 17), (.call 12 [(.t 16)]), none⟩, ⟨(some 15), (.mv (.t 17)), none⟩, ⟨(some 18), (.ext (.t 15) 0), none⟩, ⟨(some 19), (.ext (.t 15) 1), none⟩, ⟨(some 4), (.new 30 [(20, (.blob (List.replicate 20 (.int .u8 0)))), (1, (.str [])), (1, (.int .i64 0)), (1, (.int .i64 0)), (1, (.con (.slice none 0 0))), (1, (.con (.slice none 0 0))), (1, (.str []))]), none⟩, ⟨none, (.st (.st 26) (.t 4) (.t 18)), none⟩, ⟨(some 5), (.mv (.t 19)), none⟩]) (.seq (.reg none [⟨(some 21), (.mv (.t 3)), none⟩, ⟨(some 22), (.call 13 [(.t 21)]), none⟩, ⟨(some 20), (.mv (.t 22)), none⟩, ⟨(some 23), (.ext (.t 20) 0), none⟩, ⟨(some 24), (.ext (.t 20) 1), none⟩, ⟨(some 6), (.new 26 [(20, (.blob (List.replicate 20 (.int .u8 0)))), (1, (.str [])), (1, (.int .i64 0)), (1, (.int .i64 0)), (1, (.con (.slice none 0 0))), (1, (.con (.slice none 0 0))), (1, (.str []))]), none⟩, ⟨none, (.st (.st 26) (.t 6) (.t 23)), none⟩, ⟨(some 7), (.mv (.t 24)), none⟩]) (.seq (.reg (some [(0, true), (1, true), (2, false), (3, false), (4, false), (5, true), (6, true), (7, true), (8, true), (9, true), (10, true), (11, true), (12, true), (13, true), (14, true), (15, false), (16, false), (16, false), (18, true), (19, true), (20, true), (21, false), (22, false), (23, false), (24, true), (25, true), (26, true)]) [⟨(some 25), (.call 9 []), none⟩, ⟨(some 26), (.mv (.t 25)), none⟩, ⟨(some 27), (.mv (.t 5)), (some (26, true))⟩, ⟨(some 28), (.bin .eql (.t 27) (.c (.int .i64 0))), (some (26, true))⟩, ⟨(some 29), (.mv (.t 7)), (some (26, true))⟩, ⟨(some 30), (.eqB false (.t 28) (.t 29)), (some (26, true))⟩, ⟨(some 31), (.pick (.t 26) (.t 30) (.c (.bool false))), none⟩, ⟨(some 32), (.mv (.t 31)), none⟩, ⟨(some 33), (.mv (.t 7)), (some (32, true))⟩, ⟨(some 34), (.mv (.t 33)), (some (32, true))⟩, ⟨(some 35), (.mv (.t 5)), (some (34, false))⟩, ⟨(some 36), (.bin .eql (.t 35) (.c (.int .i64 4))), (some (34, false))⟩, ⟨(some 37), (.pick (.t 34) (.c (.bool true)) (.t 36)), (some (32, true))⟩, ⟨(some 38), (.pick (.t 32) (.t 37) (.c (.bool false))), none⟩, ⟨(some 39), (.mv (.t 38)), none⟩, ⟨(some 40), (.ld (.st 26) (.t 4)), (some (39, true))⟩, ⟨(some 41), (.call 6 [(.t 40)]), (some (39, true))⟩, ⟨(some 42), (.ld (.st 26) (.t 6)), (some (39, true))⟩, ⟨(some 43), (.call 11 [(.t 41), (.t 42)]), (some (39, true))⟩, ⟨(some 44), (.pick (.t 39) (.t 43) (.c (.bool false))), none⟩, ⟨(some 45), (.mv (.t 44)), none⟩, ⟨(some 46), (.mv (.t 0)), (some (45, true))⟩, ⟨(some 47), (.toStr (.t 46)), (some (45, true))⟩, ⟨(some 48), (.mv (.t 3)), (some (45, true))⟩, ⟨(some 49), (.bin .eql (.t 47) (.t 48)), (some (45, true))⟩, ⟨(some 50), (.pick (.t 45) (.t 49) (.c (.bool false))), none⟩, ⟨(some 2), (.mv (.t 50)), none⟩]) .ret))))))
def r_glparses : List ARes := [(.t 2)]
theorem s_glparses : slimF Tryz.prog Tryz.f4 = some (c_glparses, r_glparses) := by kernel_rfl
end Go.Proofs.YtfabdnpeohpgnaaGreatDoor
namespace Go.Proofs.YtfabdnpeohpgnaaGreatDoor
set_option linter.all false
open Go.RowKit
open Go.Lib (index hasPrefix cut indexAny itoa)
def cOwn (m u : List UInt8) (t z : Int) (E F : AV) (d : List UInt8) : List (Nat × AV) := [(20, .blob (m.map U)), (1, .str u), (1, .int .i64 t), (1, .int .i64 z), (1, E), (1, F), (1, .str d)]
def zOwn : List (Nat × AV) := [(20, .blob (List.replicate 20 (.int .u8 0))), (1, .str []), (1, .int .i64 0), (1, .int .i64 0), (1, .con (.slice none 0 0)), (1, .con (.slice none 0 0)), (1, .str [])]
def argG (m : List Value) (ke : Nat) (es : List AV) (kf : Nat) (fs : List AV) : Prop := m = (unV m).map U ∧ es = (es.map unEx).map exV ∧ fs = (fs.map unS).map AV.str ∧ (ke = 2 ∨ es = []) ∧ kf = 1
theorem tk_min {α : Type} (l : List α) (k : Nat) : l.take (min (l.length : Int) (k : Int)).toNat = l.take k := by
  rcases Nat.le_total l.length k with h | h
  · rw [List.take_of_length_le (by omega), List.take_of_length_le h]
  · rw [show (min (l.length : Int) (k : Int)).toNat = k by omega]
theorem mapT_succ {α β : Type} (f : α → β) (l : List α) {i : Nat} (h : i < l.length) : (l.take i).map f ++ [f l[i]] = (l.take (i + 1)).map f := by
  rw [List.take_add_one, List.getElem?_eq_getElem h, Option.toList_some, List.map_append, List.map_cons, List.map_nil]
def lgofS : Spec := fun xs hp => match xs, hp with
  | [.agg [(20, .blob m), (1, .str u), (1, .int .i64 t), (1, .int .i64 z), (1, .sl ke es), (1, .sl kf fs), (1, .str d)]], [] =>
    some ⟨.agg (cOwn (unV m) u t z (.own 0 (es.map unEx).length) (.own 1 1) d), [.row 47 2 (es.map unEx).length ((es.map unEx).map exV), .row 9 1 1 ((fs.map unS).map AV.str)],
      argG m ke es kf fs ∧ (unV m).length = 20 ∧ es.length ≤ 1000000 ∧ fs.length ≤ 1000000⟩
  | _, _ => none
set_option maxHeartbeats 4000000 in
theorem lgof_ok : FnOk Tryz.prog 6 lgofS := by
  refine fn_slim2 Tryz.func6 s_glof (Φ := phiL []) phi_nil ?_
  intro xs hp r hs hp'
  unfold lgofS at hs
  split at hs
  · injection hs with hs; subst hs
    rename_i m u t z ke es kf fs d
    obtain ⟨⟨q1, q2, q3, q4, q5⟩, l1, l2, l3⟩ := hp'
    generalize unV m = m at *
    subst q1
    generalize es.map unEx = es at *
    subst q2
    generalize fs.map unS = fs at *
    subst q3 q5
    rw [List.length_map] at l2 l3
    refine ⟨len_le (by kernel_rfl), ?_⟩
    simp only [c_glof, go_sem, Nat.reduceDiv, Nat.reduceMod, ↓reduceIte, Nat.reduceEqDiff, Nat.reduceBEq, Nat.reduceSub, Nat.reduceLT, Nat.reduceAdd, Nat.reduceLeDiff, reduceCtorEq, Int.reduceEq, Int.reduceNe, Int.reduceLT, Int.reduceLE, Int.reduceToNat]
    refine ⟨l1, ?_⟩
    refine loop2P [(4228, 47, 2), (4229, 9, 1)] [1, 2, 3, 4] [0, 1, 2, 3, 4] (fun i : Nat => ⟨[(1, .ref 0 0 0), (2, .ref 1 0 0), (3, .ref 2 0 0), (4, .int .i64 (i : Int))],
      [.cells 30 [(20, .blob (m.map U)), (1, .str u), (1, .int .i64 t), (1, .int .i64 z), (1, .sl ke (es.map exV)), (1, .sl 1 (fs.map AV.str)), (1, .str d)], .cells 26 zOwn, .cells 26 (cOwn m u t z (.own 3 i) (.own 4 0) d), .row 47 2 i ((es.take i).map exV), .row 9 1 0 []]⟩)
      (fun i => i ≤ es.length) (fun i => es.length - i) 0 (by rfl) (Nat.zero_le _) ⟨rfl, by rfl⟩ (fun i hi R hR => ?_)
    by_cases hil : i < es.length
    · have c1 : decide ((i : Int) < (es.length : Int)) = true := decide_eq_true (by omega)
      have hk : ke = 2 := q4.resolve_right (by intro h; have := congrArg List.length h; simp at this; rw [this] at hil; simp at hil)
      subst hk
      have hget := getD_map exV es ([], []) (.agg [(1, (.str [])), (1, (.str []))]) hil
      have hga : es.getD i ([], []) = es[i] := by simp [List.getD_eq_getElem?_getD, List.getElem?_eq_getElem hil]
      have hlen : ((es.take i).map exV ++ [AV.agg [(1, AV.str es[i].1), (1, AV.str es[i].2)]]).length = i + 1 := by simp; omega
      have hsn : (es.take i).map exV ++ [AV.agg [(1, AV.str es[i].1), (1, AV.str es[i].2)]] = (es.take (i + 1)).map exV := mapT_succ exV es hil
      simp only [b_glof_0, cOwn, zOwn, c1, hget, hga, exV, Int.toNat_natCast, List.length_map, go_sem, Nat.reduceDiv, Nat.reduceMod, ↓reduceIte, Nat.reduceEqDiff, Nat.reduceBEq, Nat.reduceSub, Nat.reduceLT, Nat.reduceAdd, Nat.reduceLeDiff, reduceCtorEq, Int.reduceEq, Int.reduceNe, Int.reduceLT, Int.reduceLE, Int.reduceToNat]
      (repeat' apply And.intro)
      all_goals first | omega | (rw [hlen]; (first | omega | (simp only [lenOk, bytesOk, inI, IntKind.bits, List.length_append, Bs_len, List.length_cons, List.length_nil, List.length_map, List.length_take, List.length_drop, List.length_replicate]; omega))) | skip
      refine hR _ (i + 1) hil (by omega) ?_
      rw [hsn]; rfl
    · have c1 : decide ((i : Int) < (es.length : Int)) = false := decide_eq_false (by omega)
      obtain rfl : i = es.length := by omega
      rw [List.take_length]
      simp only [b_glof_0, t_glof_0, r_glof, cOwn, zOwn, c1, List.length_map, go_sem, Nat.reduceDiv, Nat.reduceMod, ↓reduceIte, Nat.reduceEqDiff, Nat.reduceBEq, Nat.reduceSub, Nat.reduceLT, Nat.reduceAdd, Nat.reduceLeDiff, reduceCtorEq, Int.reduceEq, Int.reduceNe, Int.reduceLT, Int.reduceLE, Int.reduceToNat]
      (repeat' apply And.intro)
      all_goals first | omega | (first | omega | (simp only [lenOk, bytesOk, inI, IntKind.bits, List.length_append, Bs_len, List.length_cons, List.length_nil, List.length_map, List.length_take, List.length_drop, List.length_replicate]; omega)) | rfl | skip
  · cases hs
end Go.Proofs.YtfabdnpeohpgnaaGreatDoor
namespace Go.Proofs.YtfabdnpeohpgnaaGreatDoor
set_option linter.all false
open Go.RowKit
open Go.Lib (index hasPrefix cut indexAny itoa decDigits)
def zs20 : List UInt8 := List.replicate 20 0
def exH : ChgL := ⟨zs20, [117], 0, 0, [([98, 114, 97, 110, 99, 104], [120, 10])], [[97]], [100]⟩
theorem exH_right : rightH exH = true := by decide
def exRest : List UInt8 := [10, 117, 10, 48, 32, 48, 32, 98, 114, 97, 110, 99, 104, 58, 120, 92, 110, 10, 97, 10, 10, 100]
theorem itoa_0 : itoa 0 = [48] := by rw [itoa_dec (by decide), show (0 : Int).toNat = 0 from rfl, decD_small (by decide)]; rfl
theorem exH_body : bodyH exH = hexL zs20 ++ exRest := by
  unfold bodyH dateT exH
  simp only
  rw [itoa_0]; rfl
theorem exH_len : (bodyH exH).length = 62 := by
  rw [exH_body, List.length_append, hexL_length]; rfl
theorem exH_drop : (bodyH exH).drop 40 = exRest := by
  rw [exH_body]
  exact List.drop_left' (by rw [hexL_length]; rfl)
theorem exH_read : chgB (bodyH exH) = true ∧ chgC (bodyH exH) = exH := chg_body exH_right rfl
theorem exH_size : sizeH exH := ⟨rfl, by decide, by decide, by decide, by decide, by decide, by decide, by decide, by decide, ⟨by decide, by decide⟩, ⟨by decide, by decide⟩⟩
def exHB : List UInt8 := bodyH exH
theorem exHB_len : exHB.length = 62 := exH_len
theorem exHB_drop : exHB.drop 40 = exRest := exH_drop
theorem exHPr (pr : Prop) : gprnR ⟨unV (List.replicate 20 (Value.int .u8 0)), [117], 0, 0, [unEx (.agg [(1, .str [98, 114, 97, 110, 99, 104]), (1, .str [120, 10])])], [unS (.str [97])], [100]⟩ pr =
    some ⟨.tup [.own 0 0, .int .i64 0], [.row 5 1 0 (Bs exHB)], pr⟩ := by
  have : (⟨unV (List.replicate 20 (Value.int .u8 0)), [117], 0, 0, [unEx (.agg [(1, .str [98, 114, 97, 110, 99, 104]), (1, .str [120, 10])])], [unS (.str [97])], [100]⟩ : ChgL) = exH := rfl
  rw [this]
  unfold gprnR exHB
  rw [if_pos exH_right]
theorem exHRd (pr : Prop) : gparR (chgC exHB) (chgB exHB) pr = some ⟨.tup [.agg [(20, .blob (zs20.map U)), (1, .str [117]), (1, .int .i64 0), (1, .int .i64 0), (1, .own 0 1), (1, .own 1 1), (1, .str [100])], .int .i64 0],
    [.row 48 2 1 [.agg [(1, .str [98, 114, 97, 110, 99, 104]), (1, .str [120, 10])]], .row 9 1 1 [.str [97]]], pr⟩ := by
  unfold gparR exHB
  rw [exH_read.1, exH_read.2]; rfl
def gknownS : Spec := fun xs hp => match xs, hp with
  | [], [] => some ⟨.bool true, [], True⟩
  | _, _ => none
theorem unV_z20 : List.replicate 20 (Value.int .u8 0) = List.map U (unV (List.replicate 20 (Value.int .u8 0))) := rfl
theorem flat_By (l : List UInt8) : ∀ x, x ∈ Bs l → flatB 4 x = true := by
  intro x hx
  obtain ⟨u, _, rfl⟩ := List.mem_map.1 hx
  rfl
theorem flx_by (l : List UInt8) : (∀ x ∈ Bs l, flatB 4 x = true) = True := eq_true (flat_By l)
theorem flx_ex (l : List ExL) : (∀ x ∈ l.map exV, flatB 4 x = true) = True := eq_true fun x hx => by
  obtain ⟨u, _, rfl⟩ := List.mem_map.1 hx; rfl
theorem flx_st (l : List (List UInt8)) : (∀ x ∈ l.map AV.str, flatB 4 x = true) = True := eq_true fun x hx => by
  obtain ⟨u, _, rfl⟩ := List.mem_map.1 hx; rfl
theorem flx_of {α : Type} (l : List α) (f : α → AV) (h : ∀ a, flatB 4 (f a) = true) : ∀ x ∈ l.map f, flatB 4 x = true := fun x hx => by
  obtain ⟨u, _, rfl⟩ := List.mem_map.1 hx; exact h u
set_option maxHeartbeats 2000000 in
theorem gknown_ok : FnOk Tryz.prog 9 gknownS := by
  refine fn_slim2 Tryz.func9 s_gknown (Φ := phiL [(7, [], gprnS), (12, [], gparS)]) (phi_cons gprn_ok (by kernel_rfl) (phi_cons gpar_ok (by kernel_rfl) phi_nil)) ?_
  intro xs hp r hs hp'
  unfold gknownS at hs
  split at hs
  · injection hs with hs; subst hs
    refine ⟨len_le (by kernel_rfl), ?_⟩
    have h1 := exHB_len
    have h2 := exHB_drop
    have d1 : decide ((43 : Int) < (exHB.length : Int)) = true := decide_eq_true (by omega)
    have h3 : ((exHB.length : Int) - 40).toNat = 22 := by omega
    have h4 : (Bs exHB).drop 40 = Bs exRest := by rw [← h2]; simp [Bs]
    have h5 : (Bs exRest).take 22 = Bs exRest := List.take_of_length_le (by rw [Bs_len]; decide)
    have d2 : decide (exRest = [10, 117, 10, 48, 32, 48, 32, 98, 114, 97, 110, 99, 104, 58, 120, 92, 110, 10, 97, 10, 10, 100]) = true := rfl
    simp only [c_gknown, r_gknown, gprnS, exHPr, gparS, unB_Bs, exHRd, d1, d2, h3, h4, h5, ↓flx_by, go_sem, Nat.reduceDiv, Nat.reduceMod, ↓reduceIte, Nat.reduceEqDiff, Nat.reduceBEq, Nat.reduceSub, Nat.reduceLT, Nat.reduceAdd, Nat.reduceLeDiff, reduceCtorEq, Int.reduceEq, Int.reduceNe, Int.reduceLT, Int.reduceLE, Int.reduceToNat]
    refine ⟨⟨⟨unV_z20, rfl, rfl, .inl rfl, rfl⟩, exH_size⟩, ?_⟩
    (repeat' apply And.intro)
    all_goals first | omega | rfl | (intro x hx; rw [List.mem_singleton.1 hx]; rfl) | skip
    exact flx_of [[97]] AV.str (fun _ => rfl)
  · cases hs
end Go.Proofs.YtfabdnpeohpgnaaGreatDoor
namespace Go.Proofs.YtfabdnpeohpgnaaGreatDoor
set_option linter.all false
open Go.RowKit
open Go.Lib (index hasPrefix cut indexAny itoa decDigits)
theorem esc_pos (c : UInt8) : 1 ≤ (escC c).length := by
  unfold escC
  repeat' split
  all_goals simp
theorem tol_ge : ∀ v : List UInt8, v.length ≤ (tolL v).length
  | [] => Nat.le_refl _
  | c :: v => by
    have ih := tol_ge v
    have := esc_pos c
    unfold tolL at ih ⊢
    rw [List.flatMap_cons, List.length_append, List.length_cons]; omega
theorem exT_ge (x : ExL) : x.1.length + x.2.length + 1 ≤ (exT x).length := by
  have := tol_ge x.2
  unfold exT
  rw [List.length_append, List.length_cons]; omega
theorem exsT_ge : ∀ es : List ExL, es.length ≤ (exsT es).length ∧ ∀ x ∈ es, x.1.length + x.2.length ≤ (exsT es).length
  | [] => ⟨Nat.le_refl _, fun x hx => by cases hx⟩
  | y :: es => by
    have hf : es.length ≤ ((es.map exT).flatMap ((0 : UInt8) :: ·)).length ∧ ∀ x ∈ es, x.1.length + x.2.length ≤ ((es.map exT).flatMap ((0 : UInt8) :: ·)).length := by
      induction es with
      | nil => exact ⟨Nat.le_refl _, fun x hx => by cases hx⟩
      | cons z es ih =>
        obtain ⟨h1, h2⟩ := ih
        have := exT_ge z
        simp only [List.map_cons, List.flatMap_cons, List.length_append, List.length_cons]
        refine ⟨by omega, fun x hx => ?_⟩
        rcases List.mem_cons.1 hx with rfl | hx
        · omega
        · have := h2 x hx; omega
    obtain ⟨h1, h2⟩ := hf
    have := exT_ge y
    simp only [exsT, joinB, List.map_cons, List.length_append, List.length_cons]
    refine ⟨by omega, fun x hx => ?_⟩
    rcases List.mem_cons.1 hx with rfl | hx
    · omega
    · have := h2 x hx; omega
theorem sumF_mem : ∀ (l : List (List UInt8)) (x : List UInt8), x ∈ l → x.length ≤ sumL l
  | y :: l, x, h => by
    simp only [sumL, List.map_cons, List.sum_cons]
    rcases List.mem_cons.1 h with rfl | h
    · omega
    · have := sumF_mem l x h; simp only [sumL] at this; omega
theorem chg_size {s : List UInt8} (h : chgB s = true) (hs : s.length ≤ 100000) : sizeH (chgC s) ∧ (chgC s).desc.length ≤ s.length := by
  obtain ⟨h1, h2⟩ := body_chg h
  have hl := chgC_len s
  have hr := rightH_of h1
  generalize chgC s = c at *
  have e := body_len c
  rw [h2] at e
  have hd : (dateT c).length = (itoa c.time).length + (1 + ((itoa c.zone).length + (exsT c.extras).length)) := by
    unfold dateT; simp only [List.length_append, List.length_cons]; omega
  obtain ⟨g1, g2⟩ := exsT_ge c.extras
  refine ⟨⟨hl, by omega, by omega, by omega, fun x hx => ?_, fun f hf => ?_, by omega, by omega, by omega, ?_, ?_⟩, by omega⟩
  · have := g2 x hx; omega
  · have := sumF_mem _ f hf; omega
  · have := hr.time; unfold inI; omega
  · have := hr.zone; unfold inI; omega
theorem tb_19 (b : List UInt8) (k : Nat) : (Bs b).take (min (b.length : Int) (k : Int)).toNat = Bs (b.take k) := by
  show (List.map ub b).take _ = _
  rw [← List.map_take, tk_min]; rfl
theorem gparR_t {s : List UInt8} {c : ChgL} (h : chgB s = true) (hv : chgC s = c) (pr : Prop) : gparR (chgC s) (chgB s) pr =
    some ⟨.tup [.agg (cOwn c.man c.user c.time c.zone (.own 0 c.extras.length) (.own 1 c.files.length) c.desc), .int .i64 0], [.row 48 2 c.extras.length (c.extras.map exV), .row 9 1 c.files.length (c.files.map AV.str)], pr⟩ := by
  unfold gparR; rw [h, hv]; rfl
theorem gparR_f {s : List UInt8} (h : chgB s = false) (pr : Prop) : gparR (chgC s) (chgB s) pr = some ⟨.tup [.agg zOwn, .int .i64 4], [], pr⟩ := by
  unfold gparR; rw [h]; rfl
end Go.Proofs.YtfabdnpeohpgnaaGreatDoor
namespace Go.Proofs.YtfabdnpeohpgnaaGreatDoor
set_option linter.all false
open Go.RowKit
open Go.Lib (itoa)
noncomputable def lgparsesS : Spec := fun xs hp => match xs, hp with
  | [.sl 1 bs], [] => some ⟨.bool true, [], bs = Bs (unB bs) ∧ bs.length ≤ 9223372036854775807⟩
  | _, _ => none
noncomputable def phiGParses : Phi := phiL [(12, [], gparS), (13, [], rgparS), (6, [], lgofS), (11, [], rgsameS), (9, [], gknownS)]
theorem phiGParses_ok : PhiOk Tryz.prog phiGParses := phi_cons gpar_ok (by kernel_rfl) (phi_cons rgpar_ok (by kernel_rfl) (phi_cons lgof_ok (by kernel_rfl) (phi_cons rgsame_ok (by kernel_rfl) (phi_cons gknown_ok (by kernel_rfl) phi_nil))))
theorem phiGParses_1 : phiGParses 12 = some ([], gparS) := rfl
theorem phiGParses_2 : phiGParses 13 = some ([], rgparS) := rfl
theorem phiGParses_3 : phiGParses 6 = some ([], lgofS) := rfl
theorem phiGParses_4 : phiGParses 11 = some ([], rgsameS) := rfl
theorem phiGParses_5 : phiGParses 9 = some ([], gknownS) := rfl
theorem rgparR_t {s : List UInt8} {c : ChgL} (h : chgB s = true) (hv : chgC s = c) (pr : Prop) : rgparR (guessH s) (rightH (guessH s) && decide (bodyH (guessH s) = s)) pr =
    some ⟨.tup [.agg (cOwn c.man c.user c.time c.zone (.own 0 c.extras.length) (.own 1 c.files.length) c.desc), .bool true], [.row 47 2 c.extras.length (c.extras.map exV), .row 9 1 c.files.length (c.files.map AV.str)], pr⟩ := by
  unfold rgparR; rw [← chg_iff, h, chg_eq h, hv]; rfl
theorem rgparR_f {s : List UInt8} (h : chgB s = false) (pr : Prop) : rgparR (guessH s) (rightH (guessH s) && decide (bodyH (guessH s) = s)) pr = some ⟨.tup [.agg zOwn, .bool false], [], pr⟩ := by
  unfold rgparR; rw [← chg_iff, h]; rfl
set_option maxHeartbeats 8000000 in
set_option maxRecDepth 8000 in
theorem lgparses_ok : FnOk Tryz.prog 4 lgparsesS := by
  refine fn_slim2 Tryz.func4 s_glparses phiGParses_ok ?_
  intro xs hp r hs hp'
  unfold lgparsesS at hs
  split at hs
  · injection hs with hs; subst hs
    rename_i bs
    obtain ⟨q0, p1⟩ := hp'
    generalize unB bs = b at *
    subst q0
    rw [Bs_len] at p1
    refine ⟨len_le (by kernel_rfl), ?_⟩
    have htb := tb_19 b 2000
    have htb : (Bs b).take (min (b.length : Int) 2000).toNat = Bs (b.take 2000) := htb
    have hl : (b.take 2000).length ≤ 2000 := by rw [List.length_take]; omega
    generalize b.take 2000 = s at *
    have c20 := chgC_len s
    cases h1 : chgB s with
    | true =>
      obtain ⟨⟨n1, n2, n3, n4, -⟩, -⟩ := chg_size h1 (by omega)
      obtain ⟨c, hc⟩ : ∃ c, chgC s = c := ⟨_, rfl⟩
      have e1 := gparR_t h1 hc
      have e2 := rgparR_t h1 hc
      rw [hc] at c20 n1 n2 n3 n4
      obtain ⟨cm, cu, ct, cz, ce, cf, cd⟩ := c
      simp only at c20 n1 n2 n3 n4 e1 e2
      simp only [c_glparses, r_glparses, phiGParses_1, phiGParses_2, phiGParses_3, phiGParses_4, phiGParses_5, gparS, rgparS, lgofS, rgsameS, gknownS, htb, cOwn, zOwn, argG, argS7, unV_U, unEx_map, unS_map, unB_Bs, sameH_self, if_true, if_false, Bool.false_eq_true, List.length_map, ↓flx_ex, ↓flx_st, ↓flx_by, e1, e2, go_sem, Nat.reduceDiv, Nat.reduceMod, ↓reduceIte, Nat.reduceEqDiff, Nat.reduceBEq, Nat.reduceSub, Nat.reduceLT, Nat.reduceAdd, Nat.reduceLeDiff, reduceCtorEq, Int.reduceEq, Int.reduceNe, Int.reduceLT, Int.reduceLE, Int.reduceToNat]
      (repeat' apply And.intro); all_goals first | omega | exact .inl trivial | exact .inr trivial | exact .inr rfl | exact c20 | rfl | trivial | (intro p hp; cases hp; done) | skip
    | false =>
      have e1 := gparR_f h1
      have e2 := rgparR_f h1
      simp only [c_glparses, r_glparses, phiGParses_1, phiGParses_2, phiGParses_3, phiGParses_4, phiGParses_5, gparS, rgparS, lgofS, rgsameS, gknownS, htb, cOwn, zOwn, argG, argS7, unV_U, unEx_map, unS_map, unB_Bs, sameH_self, if_true, if_false, Bool.false_eq_true, List.length_map, ↓flx_ex, ↓flx_st, ↓flx_by, e1, e2, go_sem, Nat.reduceDiv, Nat.reduceMod, ↓reduceIte, Nat.reduceEqDiff, Nat.reduceBEq, Nat.reduceSub, Nat.reduceLT, Nat.reduceAdd, Nat.reduceLeDiff, reduceCtorEq, Int.reduceEq, Int.reduceNe, Int.reduceLT, Int.reduceLE, Int.reduceToNat]
      (repeat' apply And.intro); all_goals first | omega | exact .inl trivial | exact .inr trivial | exact .inr rfl | exact c20 | rfl | trivial | (intro p hp; cases hp; done) | skip
  · cases hs
theorem changeParses_walk {A0 : Option Addr} {n0 c0 : Nat} {l0 : List UInt8} (w : World) (w0 : Arg w A0 n0 c0 l0) (g : GlobOk w (fun b => b < w.heap.size)) :
    Calls Tryz.prog 4 #[.slice A0 n0 c0] w fun e w' => e = .returned (.bool true) ∧ Below w.heap.size w w' :=
  lgparses_ok.calls_bool (xs := [.sl 1 (Bs l0)]) rfl ⟨by rw [unB_Bs], by rw [Bs_len]; have := w0.cap; have := w0.max; omega⟩ rfl (args_cons w0.vl (args_nil g))
end Go.Proofs.YtfabdnpeohpgnaaGreatDoor
