import Derived.Test.YtfabdnpeohpgnaaGreatDoorQRDec
import Derived.Test.YtfabdnpeohpgnaaGreatDoorChecked
import Derived.Test.YtfabdnpeohpgnaaGreatDoorQAMS
import Derived.Test.YtfabdnpeohpgnaaGreatDoorQFRepl
import Derived.Test.YtfabdnpeohpgnaaGreatDoorQArgs
import Derived.WideKeyArr2
import Derived.ChangeSame
import Derived.ChangeMaps5
import Derived.OpenShut
import Derived.Lib.SmallJoins
namespace Go.Proofs.YtfabdnpeohpgnaaGreatDoor
set_option linter.all false
open Go.RowKit
open Go.Lib (index hasPrefix trimPrefix cut indexAny itoa)
theorem nmV_in (s : List UInt8) : inI (nmV s) := by
  have h1 := decN_lt s
  have h2 := decN_lt (s.drop 1)
  unfold nmV inI
  split <;> constructor <;> omega
theorem goodQ_err (l : List UInt8) : decide (pErr l = 0) = goodQ l := by
  unfold pErr
  cases goodQ l <;> rfl
set_option maxHeartbeats 8000000 in
theorem gpar_ok : FnOk Tryz.prog 12 gparS := by
  refine fn_slim2A Tryz.func12 s_gpar phiGR2_ok ?_
  intro xs hp r hs hp'
  unfold gparS at hs
  split at hs
  · rename_i bs
    obtain ⟨q1', q2'⟩ := gparR_pre hs hp'
    generalize unB bs = b at *
    subst q1'
    rw [Bs_len] at q2'
    refine ⟨len_le (by kernel_rfl), ?_⟩
    have hr : r = (gparR (chgC b) (chgB b) (Bs b = Bs b ∧ (Bs b).length ≤ 1000000)).getD ⟨.tup [], [], True⟩ := by rw [hs]; rfl
    obtain ⟨a1, a2⟩ := cutl1' b [10]
    obtain ⟨a3, a4⟩ := cutl1' (cut b [10]).2.1 [10]
    obtain ⟨a5, a6⟩ := cutl1' (cut (cut b [10]).2.1 [10]).2.1 [10]
    obtain ⟨a7, a8⟩ := cutl1' (cut (cut (cut b [10]).2.1 [10]).2.1 [10]).1 [32]
    obtain ⟨a9, a10⟩ := cutl1' (cut (cut (cut (cut b [10]).2.1 [10]).2.1 [10]).1 [32]).2.1 [32]
    have p1 : b.length < 4294967281 := by omega
    have p2 : (cut b [10]).1.length ≤ 1000000000 := by omega
    have p3 : (cut b [10]).2.1.length < 4294967281 := by omega
    have P1 := eq_true p1
    have P2 := eq_true p2
    have P3 := eq_true p3
    have hl20 : (pOut (cut b [10]).1).length = 20 := pOut_len _
    cases hz : (zP b).2.2 with
    | true =>
      have hbd : badH b = (bad0 b || (psl 0 (zP b).2.1).any fun o => !exOk o) := by unfold badH; rw [hz, Bool.true_and]
      have hex : exsP b = (psl 0 (zP b).2.1).map exP := by unfold exsP; rw [if_pos hz]
      have hz' := hz
      unfold zP tP q3 q2 q1 at hz
      simp (config := { maxSteps := 8000000 }) only [c_gpar, hz, phiGR2_1, phiGR2_2, phiGR2_3, phiGR2_4, phiGR2_5, phiGR2_6, glineS, parseS, cutS, gnumS, gexsS, P1, P2, P3, hl20, unB_Bs, any2, allD2, nextA2, stepA2, runT, Nat.reduceAnd, Nat.reduceOr, Nat.reducePow, go_sem, Nat.reduceDiv, Nat.reduceMod, ↓reduceIte, Nat.reduceEqDiff, Nat.reduceBEq, Nat.reduceSub, Nat.reduceLT, Nat.reduceAdd, Nat.reduceLeDiff, reduceCtorEq, Int.reduceEq, Int.reduceNe, Int.reduceLT, Int.reduceLE, Int.reduceToNat]
      refine ⟨by omega, by omega, by omega, by omega, by omega, by omega, ?_⟩
      refine gpar_loop (pr := Bs b = Bs b ∧ (Bs b).length ≤ 1000000) (m := pOut (q1 b).1) (u := (q2 b).1) (t := nmV (tP b).1) (z := nmV (zP b).1) (e := pErr (q1 b).1) (es := exsP b) (s0 := (q3 b).2.1) (b0 := badH b) (nils := [(4293, 9, 1)]) (ids := [0, 1, 3, 4, 5]) (by rfl) rfl ?_ ?_ ?_ ?_ ?_ ?_ hl20 ?_ ?_
      · rw [hbd, hex]; simp only [gst, List.length_map]; rfl
      · unfold q3 q2 q1; omega
      · unfold q2 q1; omega
      · rw [hex, List.length_map]
        have := psl_join_len 0 (zP b).2.1
        have ht := congrArg List.length (cut1_t (s := (tP b).2.1) (c := 32) hz')
        rw [List.length_append, List.length_cons] at ht
        unfold zP at this ⊢
        unfold tP q3 q2 q1 at this ht ⊢; omega
      · exact nmV_in _
      · exact nmV_in _
      · intro x hx
        rw [hex] at hx
        obtain ⟨o, ho, rfl⟩ := List.mem_map.1 hx
        have h1 := psl_mem_len 0 _ o ho
        have h2 := (cutl1' o [58]).1
        unfold zP tP q3 q2 q1 at h1
        show (cut o [58]).1.length ≤ 1000000
        omega
      · rw [hr, goodQ_err]; rfl
    | false =>
      have hbd : badH b = bad0 b := by unfold badH; rw [hz, Bool.false_and, Bool.or_false]
      have hex : exsP b = [] := by unfold exsP; rw [if_neg (by rw [hz]; simp)]
      have hz' := hz
      unfold zP tP q3 q2 q1 at hz
      simp (config := { maxSteps := 8000000 }) only [c_gpar, hz, phiGR2_1, phiGR2_2, phiGR2_3, phiGR2_4, phiGR2_5, phiGR2_6, glineS, parseS, cutS, gnumS, gexsS, P1, P2, P3, hl20, unB_Bs, any2, allD2, nextA2, stepA2, runT, Nat.reduceAnd, Nat.reduceOr, Nat.reducePow, go_sem, Nat.reduceDiv, Nat.reduceMod, ↓reduceIte, Nat.reduceEqDiff, Nat.reduceBEq, Nat.reduceSub, Nat.reduceLT, Nat.reduceAdd, Nat.reduceLeDiff, reduceCtorEq, Int.reduceEq, Int.reduceNe, Int.reduceLT, Int.reduceLE, Int.reduceToNat]
      refine ⟨by omega, by omega, by omega, by omega, by omega, ?_⟩
      refine gpar_loop (pr := Bs b = Bs b ∧ (Bs b).length ≤ 1000000) (m := pOut (q1 b).1) (u := (q2 b).1) (t := nmV (tP b).1) (z := nmV (zP b).1) (e := pErr (q1 b).1) (es := exsP b) (s0 := (q3 b).2.1) (b0 := badH b) (nils := [(4292, 48, 2), (4293, 9, 1)]) (ids := [0, 1, 3, 4, 5]) (by rfl) rfl ?_ ?_ ?_ ?_ ?_ ?_ hl20 ?_ ?_
      · rw [hbd, hex]; simp only [gst, List.length_nil, List.map_nil]; rfl
      · unfold q3 q2 q1; omega
      · unfold q2 q1; omega
      · rw [hex]; simp
      · exact nmV_in _
      · exact nmV_in _
      · rw [hex]; intro x hx; cases hx
      · rw [hr, goodQ_err]; rfl
  · cases hs
end Go.Proofs.YtfabdnpeohpgnaaGreatDoor
namespace Go.Proofs.YtfabdnpeohpgnaaGreatDoor
set_option linter.all false
open Go.RowKit
def b_glto_0 : ACode := (.seq (.seq (.reg none [⟨(some 28), (.mv (.t 4)), none⟩, ⟨(some 29), (.fa 23 (.t 1)), none⟩, ⟨(some 30), (.ld (.one (.con (.slice none 0 0))) (.t 29)), none⟩, ⟨(some 31), (.len none false (.t 30)), none⟩, ⟨(some 32), (.bin .lss (.t 28) (.t 31)), none⟩, ⟨(some 33), (.mv (.t 32)), none⟩, ⟨(some 34), (.mv (.t 4)), (some (33, true))⟩, ⟨(some 35), (.bin .lss (.t 34) (.c (.int .i64 20))), (some (33, true))⟩, ⟨(some 36), (.pick (.t 33) (.t 35) (.c (.bool false))), none⟩]) (.cond (.t 36) .skip (.exit 0))) (.seq (.block 1 (.seq (.reg none [⟨(some 39), (.fa 23 (.t 1)), none⟩, ⟨(some 40), (.ld (.one (.con (.slice none 0 0))) (.t 39)), none⟩, ⟨(some 41), (.mv (.t 4)), none⟩, ⟨(some 42), (.ia 2 (.agg [(1, (.str [])), (1, (.str []))]) (.t 40) (.t 41)), none⟩, ⟨(some 43), (.ld (.st 2) (.t 42)), none⟩, ⟨(some 5), (.new 47 [(1, (.str [])), (1, (.str []))]), none⟩, ⟨none, (.st (.st 2) (.t 5) (.t 43)), none⟩]) (.reg (some [(0, false), (1, false), (2, false), (3, false), (4, false), (5, false), (6, false), (7, false), (8, false), (9, false), (10, false), (11, false), (12, false), (13, false), (14, false), (15, false), (16, false), (17, false), (18, true), (19, true), (20, true)]) [⟨(some 44), (.fa 23 (.t 3)), none⟩, ⟨(some 45), (.ld (.one (.con (.slice none 0 0))) (.t 44)), none⟩, ⟨(some 46), (.fa 0 (.t 5)), none⟩, ⟨(some 47), (.ld (.one (.str [])) (.t 46)), none⟩, ⟨(some 48), (.fa 0 (.t 5)), none⟩, ⟨(some 49), (.ld (.one (.str [])) (.t 48)), none⟩, ⟨(some 50), (.len none true (.t 49)), none⟩, ⟨(some 51), (.mm false (.t 50) (.c (.int .i64 150))), none⟩, ⟨(some 52), (.slS (.t 47) none (some (.t 51))), none⟩, ⟨(some 53), (.fa 1 (.t 5)), none⟩, ⟨(some 54), (.ld (.one (.str [])) (.t 53)), none⟩, ⟨(some 55), (.fa 1 (.t 5)), none⟩, ⟨(some 56), (.ld (.one (.str [])) (.t 55)), none⟩, ⟨(some 57), (.len none true (.t 56)), none⟩, ⟨(some 58), (.mm false (.t 57) (.c (.int .i64 200))), none⟩, ⟨(some 59), (.slS (.t 54) none (some (.t 58))), none⟩, ⟨(some 60), (.build [(1, (.str [])), (1, (.str []))] [(0, (1, (.t 52))), (1, (1, (.t 59)))]), none⟩, ⟨(some 61), (.buildSl 48 2 [(.t 60)]), none⟩, ⟨(some 62), (.app 48 2 32 (.t 45) (.t 61)), none⟩, ⟨(some 63), (.fa 23 (.t 3)), none⟩, ⟨none, (.st (.one (.con (.slice none 0 0))) (.t 63) (.t 62)), none⟩]))) (.reg none [⟨(some 37), (.mv (.t 4)), none⟩, ⟨(some 38), (.bin .add (.t 37) (.c (.int .i64 1))), none⟩, ⟨(some 4), (.mv (.t 38)), none⟩])))
def b_glto_1 : ACode := (.seq (.seq (.reg none [⟨(some 64), (.mv (.t 6)), none⟩, ⟨(some 65), (.fa 24 (.t 1)), none⟩, ⟨(some 66), (.ld (.one (.con (.slice none 0 0))) (.t 65)), none⟩, ⟨(some 67), (.len none false (.t 66)), none⟩, ⟨(some 68), (.bin .lss (.t 64) (.t 67)), none⟩, ⟨(some 69), (.mv (.t 68)), none⟩, ⟨(some 70), (.mv (.t 6)), (some (69, true))⟩, ⟨(some 71), (.bin .lss (.t 70) (.c (.int .i64 20))), (some (69, true))⟩, ⟨(some 72), (.pick (.t 69) (.t 71) (.c (.bool false))), none⟩]) (.cond (.t 72) .skip (.exit 2))) (.seq (.block 3 (.reg (some [(0, false), (1, false), (2, false), (3, false), (4, false), (5, false), (6, false), (7, false), (8, false), (9, false), (10, false), (11, false), (12, false), (13, false), (14, false), (15, false), (16, true), (17, true), (18, true)]) [⟨(some 75), (.fa 24 (.t 3)), none⟩, ⟨(some 76), (.ld (.one (.con (.slice none 0 0))) (.t 75)), none⟩, ⟨(some 77), (.fa 24 (.t 1)), none⟩, ⟨(some 78), (.ld (.one (.con (.slice none 0 0))) (.t 77)), none⟩, ⟨(some 79), (.mv (.t 6)), none⟩, ⟨(some 80), (.ia 1 (.str []) (.t 78) (.t 79)), none⟩, ⟨(some 81), (.ld (.one (.str [])) (.t 80)), none⟩, ⟨(some 82), (.fa 24 (.t 1)), none⟩, ⟨(some 83), (.ld (.one (.con (.slice none 0 0))) (.t 82)), none⟩, ⟨(some 84), (.mv (.t 6)), none⟩, ⟨(some 85), (.ia 1 (.str []) (.t 83) (.t 84)), none⟩, ⟨(some 86), (.ld (.one (.str [])) (.t 85)), none⟩, ⟨(some 87), (.len none true (.t 86)), none⟩, ⟨(some 88), (.mm false (.t 87) (.c (.int .i64 300))), none⟩, ⟨(some 89), (.slS (.t 81) none (some (.t 88))), none⟩, ⟨(some 90), (.buildSl 9 1 [(.t 89)]), none⟩, ⟨(some 91), (.app 9 1 16 (.t 76) (.t 90)), none⟩, ⟨(some 92), (.fa 24 (.t 3)), none⟩, ⟨none, (.st (.one (.con (.slice none 0 0))) (.t 92) (.t 91)), none⟩])) (.reg none [⟨(some 73), (.mv (.t 6)), none⟩, ⟨(some 74), (.bin .add (.t 73) (.c (.int .i64 1))), none⟩, ⟨(some 6), (.mv (.t 74)), none⟩])))
def t_glto_0 : ACode := (.seq (.reg none [⟨(some 93), (.ld (.st 26) (.t 3)), none⟩, ⟨none, (.st (.st 26) (.t 2) (.t 93)), none⟩]) .ret)
def t_glto_1 : ACode := (.seq (.seq (.reg none [⟨(some 6), (.mv (.c (.int .i64 0))), none⟩]) (.block 2 (.loop b_glto_1))) t_glto_0)
def c_glto : ACode := (.seq (.reg none [⟨(some 1), (.box 26 26 (.t 0)), none⟩, ⟨(some 2), (.new 30 [(20, (.blob (List.replicate 20 (.int .u8 0)))), (1, (.str [])), (1, (.int .i64 0)), (1, (.int .i64 0)), (1, (.con (.slice none 0 0))), (1, (.con (.slice none 0 0))), (1, (.str []))]), none⟩]) (.seq (.reg (some [(0, false), (1, false), (2, false), (3, false), (4, false), (5, false), (6, false), (7, false), (8, false), (9, false), (10, false), (11, false), (12, false), (13, false), (14, false), (15, false), (16, false), (17, false), (18, false), (19, false), (20, false), (21, false), (22, true)]) [⟨(some 7), (.fa 0 (.t 1)), none⟩, ⟨(some 8), (.ld (.arr 20) (.t 7)), none⟩, ⟨(some 9), (.fa 20 (.t 1)), none⟩, ⟨(some 10), (.ld (.one (.str [])) (.t 9)), none⟩, ⟨(some 11), (.fa 20 (.t 1)), none⟩, ⟨(some 12), (.ld (.one (.str [])) (.t 11)), none⟩, ⟨(some 13), (.len none true (.t 12)), none⟩, ⟨(some 14), (.mm false (.t 13) (.c (.int .i64 200))), none⟩, ⟨(some 15), (.slS (.t 10) none (some (.t 14))), none⟩, ⟨(some 16), (.fa 21 (.t 1)), none⟩, ⟨(some 17), (.ld (.one (.int .i64 0)) (.t 16)), none⟩, ⟨(some 18), (.fa 22 (.t 1)), none⟩, ⟨(some 19), (.ld (.one (.int .i64 0)) (.t 18)), none⟩, ⟨(some 20), (.fa 25 (.t 1)), none⟩, ⟨(some 21), (.ld (.one (.str [])) (.t 20)), none⟩, ⟨(some 22), (.fa 25 (.t 1)), none⟩, ⟨(some 23), (.ld (.one (.str [])) (.t 22)), none⟩, ⟨(some 24), (.len none true (.t 23)), none⟩, ⟨(some 25), (.mm false (.t 24) (.c (.int .i64 500))), none⟩, ⟨(some 26), (.slS (.t 21) none (some (.t 25))), none⟩, ⟨(some 27), (.build [(20, (.blob (List.replicate 20 (.int .u8 0)))), (1, (.str [])), (1, (.int .i64 0)), (1, (.int .i64 0)), (1, (.con (.slice none 0 0))), (1, (.con (.slice none 0 0))), (1, (.str []))] [(0, (20, (.t 8))), (20, (1, (.t 15))), (21, (1, (.t 17))), (22, (1, (.t 19))), (25, (1, (.t 26)))]), none⟩, ⟨(some 3), (.new 30 [(20, (.blob (List.replicate 20 (.int .u8 0)))), (1, (.str [])), (1, (.int .i64 0)), (1, (.int .i64 0)), (1, (.con (.slice none 0 0))), (1, (.con (.slice none 0 0))), (1, (.str []))]), none⟩, ⟨none, (.st (.st 26) (.t 3) (.t 27)), none⟩]) (.seq (.seq (.reg none [⟨(some 4), (.mv (.c (.int .i64 0))), none⟩]) (.block 0 (.loop b_glto_0))) t_glto_1)))
def r_glto : List ARes := [(.c 2 (.st 26))]
theorem s_glto : slimF Tryz.prog Tryz.f5 = some (c_glto, r_glto) := by kernel_rfl
def b_glof_0 : ACode := (.seq (.seq (.reg none [⟨(some 16), (.mv (.t 4)), none⟩, ⟨(some 17), (.fa 23 (.t 1)), none⟩, ⟨(some 18), (.ld (.one (.con (.slice none 0 0))) (.t 17)), none⟩, ⟨(some 19), (.len none false (.t 18)), none⟩, ⟨(some 20), (.bin .lss (.t 16) (.t 19)), none⟩]) (.cond (.t 20) .skip (.exit 0))) (.seq (.block 1 (.reg (some [(0, false), (1, false), (2, false), (3, false), (4, false), (5, false), (6, false), (7, false), (8, false), (9, false), (10, false), (11, false), (12, false), (13, false), (14, false), (15, false), (16, true), (17, true), (18, true)]) [⟨(some 23), (.fa 23 (.t 3)), none⟩, ⟨(some 24), (.ld (.one (.con (.slice none 0 0))) (.t 23)), none⟩, ⟨(some 25), (.fa 23 (.t 1)), none⟩, ⟨(some 26), (.ld (.one (.con (.slice none 0 0))) (.t 25)), none⟩, ⟨(some 27), (.mv (.t 4)), none⟩, ⟨(some 28), (.ia 2 (.agg [(1, (.str [])), (1, (.str []))]) (.t 26) (.t 27)), none⟩, ⟨(some 29), (.fa 0 (.t 28)), none⟩, ⟨(some 30), (.ld (.one (.str [])) (.t 29)), none⟩, ⟨(some 31), (.fa 23 (.t 1)), none⟩, ⟨(some 32), (.ld (.one (.con (.slice none 0 0))) (.t 31)), none⟩, ⟨(some 33), (.mv (.t 4)), none⟩, ⟨(some 34), (.ia 2 (.agg [(1, (.str [])), (1, (.str []))]) (.t 32) (.t 33)), none⟩, ⟨(some 35), (.fa 1 (.t 34)), none⟩, ⟨(some 36), (.ld (.one (.str [])) (.t 35)), none⟩, ⟨(some 37), (.build [(1, (.str [])), (1, (.str []))] [(0, (1, (.t 30))), (1, (1, (.t 36)))]), none⟩, ⟨(some 38), (.buildSl 47 2 [(.t 37)]), none⟩, ⟨(some 39), (.app 47 2 32 (.t 24) (.t 38)), none⟩, ⟨(some 40), (.fa 23 (.t 3)), none⟩, ⟨none, (.st (.one (.con (.slice none 0 0))) (.t 40) (.t 39)), none⟩])) (.reg none [⟨(some 21), (.mv (.t 4)), none⟩, ⟨(some 22), (.bin .add (.t 21) (.c (.int .i64 1))), none⟩, ⟨(some 4), (.mv (.t 22)), none⟩])))
def t_glof_0 : ACode := (.seq (.reg none [⟨(some 41), (.fa 24 (.t 3)), none⟩, ⟨(some 42), (.ld (.one (.con (.slice none 0 0))) (.t 41)), none⟩, ⟨(some 43), (.fa 24 (.t 1)), none⟩, ⟨(some 44), (.ld (.one (.con (.slice none 0 0))) (.t 43)), none⟩, ⟨(some 45), (.app 9 1 16 (.t 42) (.t 44)), none⟩, ⟨(some 46), (.fa 24 (.t 3)), none⟩, ⟨none, (.st (.one (.con (.slice none 0 0))) (.t 46) (.t 45)), none⟩]) (.seq (.reg none [⟨(some 47), (.ld (.st 26) (.t 3)), none⟩, ⟨none, (.st (.st 26) (.t 2) (.t 47)), none⟩]) .ret))
def c_glof : ACode := (.seq (.reg none [⟨(some 1), (.box 30 26 (.t 0)), none⟩, ⟨(some 2), (.new 26 [(20, (.blob (List.replicate 20 (.int .u8 0)))), (1, (.str [])), (1, (.int .i64 0)), (1, (.int .i64 0)), (1, (.con (.slice none 0 0))), (1, (.con (.slice none 0 0))), (1, (.str []))]), none⟩]) (.seq (.reg none [⟨(some 5), (.fa 0 (.t 1)), none⟩, ⟨(some 6), (.ld (.arr 20) (.t 5)), none⟩, ⟨(some 7), (.fa 20 (.t 1)), none⟩, ⟨(some 8), (.ld (.one (.str [])) (.t 7)), none⟩, ⟨(some 9), (.fa 21 (.t 1)), none⟩, ⟨(some 10), (.ld (.one (.int .i64 0)) (.t 9)), none⟩, ⟨(some 11), (.fa 22 (.t 1)), none⟩, ⟨(some 12), (.ld (.one (.int .i64 0)) (.t 11)), none⟩, ⟨(some 13), (.fa 25 (.t 1)), none⟩, ⟨(some 14), (.ld (.one (.str [])) (.t 13)), none⟩, ⟨(some 15), (.build [(20, (.blob (List.replicate 20 (.int .u8 0)))), (1, (.str [])), (1, (.int .i64 0)), (1, (.int .i64 0)), (1, (.con (.slice none 0 0))), (1, (.con (.slice none 0 0))), (1, (.str []))] [(0, (20, (.t 6))), (20, (1, (.t 8))), (21, (1, (.t 10))), (22, (1, (.t 12))), (25, (1, (.t 14)))]), none⟩, ⟨(some 3), (.new 26 [(20, (.blob (List.replicate 20 (.int .u8 0)))), (1, (.str [])), (1, (.int .i64 0)), (1, (.int .i64 0)), (1, (.con (.slice none 0 0))), (1, (.con (.slice none 0 0))), (1, (.str []))]), none⟩, ⟨none, (.st (.st 26) (.t 3) (.t 15)), none⟩]) (.seq (.seq (.reg none [⟨(some 4), (.mv (.c (.int .i64 0))), none⟩]) (.block 0 (.loop b_glof_0))) t_glof_0)))
def r_glof : List ARes := [(.c 2 (.st 26))]
theorem s_glof : slimF Tryz.prog Tryz.f6 = some (c_glof, r_glof) := by kernel_rfl
def c_gknown : ACode := (.seq (.reg none [⟨(some 0), (.mv (.c (.bool false))), none⟩]) (.seq (.reg none [⟨(some 6), (.build [(1, (.str [])), (1, (.str []))] [(0, (1, (.c (.str [98, 114, 97, 110, 99, 104])))), (1, (1, (.c (.str [120, 10]))))]), none⟩, ⟨(some 7), (.buildSl 48 2 [(.t 6)]), none⟩, ⟨(some 8), (.buildSl 9 1 [(.c (.str [97]))]), none⟩, ⟨(some 9), (.build [(20, (.blob (List.replicate 20 (.int .u8 0)))), (1, (.str [])), (1, (.int .i64 0)), (1, (.int .i64 0)), (1, (.con (.slice none 0 0))), (1, (.con (.slice none 0 0))), (1, (.str []))] [(20, (1, (.c (.str [117])))), (23, (1, (.t 7))), (24, (1, (.t 8))), (25, (1, (.c (.str [100]))))]), none⟩, ⟨(some 10), (.call 7 [(.t 9)]), none⟩, ⟨(some 5), (.mv (.t 10)), none⟩, ⟨(some 11), (.ext (.t 5) 0), none⟩, ⟨(some 12), (.ext (.t 5) 1), none⟩, ⟨(some 1), (.mv (.t 11)), none⟩, ⟨(some 2), (.mv (.t 12)), none⟩]) (.seq (.reg none [⟨(some 14), (.mv (.t 1)), none⟩, ⟨(some 15), (.call 12 [(.t 14)]), none⟩, ⟨(some 13), (.mv (.t 15)), none⟩, ⟨(some 16), (.ext (.t 13) 0), none⟩, ⟨(some 17), (.ext (.t 13) 1), none⟩, ⟨(some 3), (.new 30 [(20, (.blob (List.replicate 20 (.int .u8 0)))), (1, (.str [])), (1, (.int .i64 0)), (1, (.int .i64 0)), (1, (.con (.slice none 0 0))), (1, (.con (.slice none 0 0))), (1, (.str []))]), none⟩, ⟨none, (.st (.st 26) (.t 3) (.t 16)), none⟩, ⟨(some 4), (.mv (.t 17)), none⟩]) (.seq (.reg none [⟨(some 18), (.mv (.t 2)), none⟩, ⟨(some 19), (.bin .eql (.t 18) (.c (.int .i64 0))), none⟩, ⟨(some 20), (.mv (.t 19)), none⟩, ⟨(some 21), (.mv (.t 1)), (some (20, true))⟩, ⟨(some 22), (.len none false (.t 21)), (some (20, true))⟩, ⟨(some 23), (.bin .gtr (.t 22) (.c (.int .i64 43))), (some (20, true))⟩, ⟨(some 24), (.pick (.t 20) (.t 23) (.c (.bool false))), none⟩, ⟨(some 25), (.mv (.t 24)), none⟩, ⟨(some 26), (.mv (.t 1)), (some (25, true))⟩, ⟨(some 27), (.sl 1 (.t 26) (some (.c (.int .i64 40))) none), (some (25, true))⟩, ⟨(some 28), (.toStr (.t 27)), (some (25, true))⟩, ⟨(some 29), (.bin .eql (.t 28) (.c (.str [10, 117, 10, 48, 32, 48, 32, 98, 114, 97, 110, 99, 104, 58, 120, 92, 110, 10, 97, 10, 10, 100]))), (some (25, true))⟩, ⟨(some 30), (.pick (.t 25) (.t 29) (.c (.bool false))), none⟩, ⟨(some 31), (.mv (.t 30)), none⟩, ⟨(some 32), (.mv (.t 4)), (some (31, true))⟩, ⟨(some 33), (.bin .eql (.t 32) (.c (.int .i64 0))), (some (31, true))⟩, ⟨(some 34), (.pick (.t 31) (.t 33) (.c (.bool false))), none⟩, ⟨(some 35), (.mv (.t 34)), none⟩, ⟨(some 36), (.fa 25 (.t 3)), (some (35, true))⟩, ⟨(some 37), (.ld (.one (.str [])) (.t 36)), (some (35, true))⟩, ⟨(some 38), (.bin .eql (.t 37) (.c (.str [100]))), (some (35, true))⟩, ⟨(some 39), (.pick (.t 35) (.t 38) (.c (.bool false))), none⟩, ⟨(some 40), (.mv (.t 39)), none⟩, ⟨(some 41), (.fa 23 (.t 3)), (some (40, true))⟩, ⟨(some 42), (.ld (.one (.con (.slice none 0 0))) (.t 41)), (some (40, true))⟩, ⟨(some 43), (.len none false (.t 42)), (some (40, true))⟩, ⟨(some 44), (.bin .eql (.t 43) (.c (.int .i64 1))), (some (40, true))⟩, ⟨(some 45), (.pick (.t 40) (.t 44) (.c (.bool false))), none⟩, ⟨(some 0), (.mv (.t 45)), none⟩]) .ret))))
def r_gknown : List ARes := [(.t 0)]
theorem s_gknown : slimF Tryz.prog Tryz.f9 = some (c_gknown, r_gknown) := by kernel_rfl
def c_glprints : ACode := (.seq (.reg none [⟨(some 1), (.box 26 26 (.t 0)), none⟩, ⟨(some 2), (.mv (.c (.bool false))), none⟩]) (.seq (.reg none [⟨(some 7), (.ld (.st 26) (.t 1)), none⟩, ⟨(some 8), (.call 5 [(.t 7)]), none⟩, ⟨(some 3), (.new 30 [(20, (.blob (List.replicate 20 (.int .u8 0)))), (1, (.str [])), (1, (.int .i64 0)), (1, (.int .i64 0)), (1, (.con (.slice none 0 0))), (1, (.con (.slice none 0 0))), (1, (.str []))]), none⟩, ⟨none, (.st (.st 26) (.t 3) (.t 8)), none⟩]) (.seq (.reg none [⟨(some 9), (.ld (.st 26) (.t 3)), none⟩, ⟨(some 10), (.call 6 [(.t 9)]), none⟩, ⟨(some 4), (.new 26 [(20, (.blob (List.replicate 20 (.int .u8 0)))), (1, (.str [])), (1, (.int .i64 0)), (1, (.int .i64 0)), (1, (.con (.slice none 0 0))), (1, (.con (.slice none 0 0))), (1, (.str []))]), none⟩, ⟨none, (.st (.st 26) (.t 4) (.t 10)), none⟩]) (.seq (.reg none [⟨(some 12), (.ld (.st 26) (.t 3)), none⟩, ⟨(some 13), (.call 7 [(.t 12)]), none⟩, ⟨(some 11), (.mv (.t 13)), none⟩, ⟨(some 14), (.ext (.t 11) 0), none⟩, ⟨(some 15), (.ext (.t 11) 1), none⟩, ⟨(some 5), (.mv (.t 14)), none⟩, ⟨(some 6), (.mv (.t 15)), none⟩]) (.seq (.seq (.reg none [⟨(some 16), (.ld (.st 26) (.t 4)), none⟩, ⟨(some 17), (.call 8 [(.t 16)]), none⟩, ⟨(some 18), (.un .not (.t 17)), none⟩]) (.cond (.t 18) (.seq (.reg none [⟨(some 19), (.call 9 []), none⟩, ⟨(some 20), (.mv (.t 19)), none⟩, ⟨(some 21), (.mv (.t 6)), (some (20, true))⟩, ⟨(some 22), (.bin .eql (.t 21) (.c (.int .i64 4))), (some (20, true))⟩, ⟨(some 23), (.pick (.t 20) (.t 22) (.c (.bool false))), none⟩, ⟨(some 24), (.mv (.t 23)), none⟩, ⟨(some 25), (.mv (.t 5)), (some (24, true))⟩, ⟨(some 26), (.len none false (.t 25)), (some (24, true))⟩, ⟨(some 27), (.bin .eql (.t 26) (.c (.int .i64 0))), (some (24, true))⟩, ⟨(some 28), (.pick (.t 24) (.t 27) (.c (.bool false))), none⟩, ⟨(some 2), (.mv (.t 28)), none⟩]) .ret) .skip)) (.seq (.reg (some [(0, true), (1, true), (2, true), (3, true), (4, true), (5, true), (6, false), (7, false), (8, false), (9, false), (10, true), (11, true), (12, true), (13, false), (14, false), (14, false), (16, true), (17, true), (18, true)]) [⟨(some 29), (.call 9 []), none⟩, ⟨(some 30), (.mv (.t 29)), none⟩, ⟨(some 31), (.mv (.t 6)), (some (30, true))⟩, ⟨(some 32), (.bin .eql (.t 31) (.c (.int .i64 0))), (some (30, true))⟩, ⟨(some 33), (.pick (.t 30) (.t 32) (.c (.bool false))), none⟩, ⟨(some 34), (.mv (.t 33)), none⟩, ⟨(some 35), (.mv (.t 5)), (some (34, true))⟩, ⟨(some 36), (.toStr (.t 35)), (some (34, true))⟩, ⟨(some 37), (.ld (.st 26) (.t 4)), (some (34, true))⟩, ⟨(some 38), (.call 10 [(.t 37)]), (some (34, true))⟩, ⟨(some 39), (.bin .eql (.t 36) (.t 38)), (some (34, true))⟩, ⟨(some 40), (.pick (.t 34) (.t 39) (.c (.bool false))), none⟩, ⟨(some 41), (.mv (.t 40)), none⟩, ⟨(some 42), (.ld (.st 26) (.t 3)), (some (41, true))⟩, ⟨(some 43), (.call 6 [(.t 42)]), (some (41, true))⟩, ⟨(some 44), (.ld (.st 26) (.t 4)), (some (41, true))⟩, ⟨(some 45), (.call 11 [(.t 43), (.t 44)]), (some (41, true))⟩, ⟨(some 46), (.pick (.t 41) (.t 45) (.c (.bool false))), none⟩, ⟨(some 2), (.mv (.t 46)), none⟩]) .ret))))))
def r_glprints : List ARes := [(.t 2)]
theorem s_glprints : slimF Tryz.prog Tryz.f3 = some (c_glprints, r_glprints) := by kernel_rfl
end Go.Proofs.YtfabdnpeohpgnaaGreatDoor
namespace Go.Proofs.YtfabdnpeohpgnaaGreatDoor
set_option linter.all false
open Go.RowKit
open Go.Lib (index hasPrefix cut indexAny itoa)
def exCut (x : ExL) : ExL := (x.1.take 150, x.2.take 200)
def toH (c : ChgL) : ChgL := ⟨c.man, c.user.take 200, c.time, c.zone, (c.extras.take 20).map exCut, (c.files.take 20).map (List.take 300), c.desc.take 500⟩
def cOwn (m u : List UInt8) (t z : Int) (E F : AV) (d : List UInt8) : List (Nat × AV) := [(20, .blob (m.map U)), (1, .str u), (1, .int .i64 t), (1, .int .i64 z), (1, E), (1, F), (1, .str d)]
def zOwn : List (Nat × AV) := [(20, .blob (List.replicate 20 (.int .u8 0))), (1, .str []), (1, .int .i64 0), (1, .int .i64 0), (1, .con (.slice none 0 0)), (1, .con (.slice none 0 0)), (1, .str [])]
def argG (m : List Value) (ke : Nat) (es : List AV) (kf : Nat) (fs : List AV) : Prop := m = (unV m).map U ∧ es = (es.map unEx).map exV ∧ fs = (fs.map unS).map AV.str ∧ (ke = 2 ∨ es = []) ∧ kf = 1
def maxH (c : ChgL) : Prop := c.man.length = 20 ∧ c.user.length ≤ 9223372036854775807 ∧ c.extras.length ≤ 9223372036854775807 ∧ (∀ x ∈ c.extras, x.1.length ≤ 9223372036854775807 ∧ x.2.length ≤ 9223372036854775807) ∧
  c.files.length ≤ 9223372036854775807 ∧ (∀ f ∈ c.files, f.length ≤ 9223372036854775807) ∧ c.desc.length ≤ 9223372036854775807
def lgtoS : Spec := fun xs hp => match xs, hp with
  | [.agg [(20, .blob m), (1, .str u), (1, .int .i64 t), (1, .int .i64 z), (1, .sl ke es), (1, .sl kf fs), (1, .str d)]], [] =>
    some ⟨.agg (cOwn (toH ⟨unV m, u, t, z, es.map unEx, fs.map unS, d⟩).man (toH ⟨unV m, u, t, z, es.map unEx, fs.map unS, d⟩).user (toH ⟨unV m, u, t, z, es.map unEx, fs.map unS, d⟩).time (toH ⟨unV m, u, t, z, es.map unEx, fs.map unS, d⟩).zone
        (.own 0 (toH ⟨unV m, u, t, z, es.map unEx, fs.map unS, d⟩).extras.length) (.own 1 (toH ⟨unV m, u, t, z, es.map unEx, fs.map unS, d⟩).files.length) (toH ⟨unV m, u, t, z, es.map unEx, fs.map unS, d⟩).desc),
      [.row 48 2 (toH ⟨unV m, u, t, z, es.map unEx, fs.map unS, d⟩).extras.length ((toH ⟨unV m, u, t, z, es.map unEx, fs.map unS, d⟩).extras.map exV),
       .row 9 1 (toH ⟨unV m, u, t, z, es.map unEx, fs.map unS, d⟩).files.length ((toH ⟨unV m, u, t, z, es.map unEx, fs.map unS, d⟩).files.map AV.str)],
      argG m ke es kf fs ∧ maxH ⟨unV m, u, t, z, es.map unEx, fs.map unS, d⟩⟩
  | _, _ => none
theorem tk_min {α : Type} (l : List α) (k : Nat) : l.take (min (l.length : Int) (k : Int)).toNat = l.take k := by
  rcases Nat.le_total l.length k with h | h
  · rw [List.take_of_length_le (by omega), List.take_of_length_le h]
  · rw [show (min (l.length : Int) (k : Int)).toNat = k by omega]
theorem mapT_succ {α β : Type} (f : α → β) (l : List α) {i : Nat} (h : i < l.length) : (l.take i).map f ++ [f l[i]] = (l.take (i + 1)).map f := by
  rw [List.take_add_one, List.getElem?_eq_getElem h, Option.toList_some, List.map_append, List.map_cons, List.map_nil]
set_option maxHeartbeats 4000000 in
theorem lgto_ok : FnOk Tryz.prog 5 lgtoS := by
  refine fn_slim2 Tryz.func5 s_glto (Φ := phiL []) phi_nil ?_
  intro xs hp r hs hp'
  unfold lgtoS at hs
  split at hs
  · injection hs with hs; subst hs
    rename_i m u t z ke es kf fs d
    obtain ⟨⟨q1, q2, q3, q4, q5⟩, l1, l2, l3, l4, l5, l6, l7⟩ := hp'
    generalize unV m = m at *
    subst q1
    generalize es.map unEx = es at *
    subst q2
    generalize fs.map unS = fs at *
    subst q3 q5
    simp only at l1 l2 l3 l4 l5 l6 l7
    refine ⟨len_le (by kernel_rfl), ?_⟩
    have tu := tk_min u 200
    have tu : u.take (min (u.length : Int) 200).toNat = u.take 200 := tu
    have td := tk_min d 500
    have td : d.take (min (d.length : Int) 500).toNat = d.take 500 := td
    simp only [c_glto, tu, td, List.length_map, go_sem, Nat.reduceDiv, Nat.reduceMod, ↓reduceIte, Nat.reduceEqDiff, Nat.reduceBEq, Nat.reduceSub, Nat.reduceLT, Nat.reduceAdd, Nat.reduceLeDiff, reduceCtorEq, Int.reduceEq, Int.reduceNe, Int.reduceLT, Int.reduceLE, Int.reduceToNat]
    (repeat' apply And.intro)
    all_goals first | omega | exact l1 | skip
    simp only [toH]
    generalize u.take 200 = u' at *
    generalize d.take 500 = d' at *
    refine loop2P [(4228, 48, 2), (4229, 9, 1)] [1, 2, 3, 4] [0, 1, 2, 3, 4] (fun i : Nat => ⟨[(1, .ref 0 0 0), (2, .ref 1 0 0), (3, .ref 2 0 0), (4, .int .i64 (i : Int))],
      [.cells 26 [(20, .blob (m.map U)), (1, .str u), (1, .int .i64 t), (1, .int .i64 z), (1, .sl ke (es.map exV)), (1, .sl 1 (fs.map AV.str)), (1, .str d)], .cells 30 zOwn, .cells 30 (cOwn m u' t z (.own 3 i) (.own 4 0) d'), .row 48 2 i (((es.take i).map exCut).map exV), .row 9 1 0 []]⟩)
      (fun i => i ≤ es.length ∧ i ≤ 20) (fun i => 20 - i) 0 (by rfl) ⟨Nat.zero_le _, Nat.zero_le _⟩ ⟨rfl, by rfl⟩ (fun i hi R hR => ?_)
    obtain ⟨i1, i2⟩ := hi
    by_cases hil : i < es.length ∧ i < 20
    · obtain ⟨hil, hi20⟩ := hil
      have c1 : decide ((i : Int) < (es.length : Int)) = true := decide_eq_true (by omega)
      have c2 : decide ((i : Int) < 20) = true := decide_eq_true (by omega)
      have hk : ke = 2 := q4.resolve_right (by intro h; have := congrArg List.length h; simp at this; rw [this] at hil; simp at hil)
      subst hk
      have hget := getD_map exV es ([], []) (.agg [(1, (.str [])), (1, (.str []))]) hil
      have hga : es.getD i ([], []) = es[i] := by simp [List.getD_eq_getElem?_getD, List.getElem?_eq_getElem hil]
      obtain ⟨x1, x2⟩ := l4 es[i] (List.getElem_mem _)
      have t1 := tk_min es[i].1 150
      have t1 : es[i].1.take (min (es[i].1.length : Int) 150).toNat = es[i].1.take 150 := t1
      have t2 := tk_min es[i].2 200
      have t2 : es[i].2.take (min (es[i].2.length : Int) 200).toNat = es[i].2.take 200 := t2
      have hlen : (((es.take i).map exCut).map exV ++ [AV.agg [(1, AV.str (es[i].1.take 150)), (1, AV.str (es[i].2.take 200))]]).length = i + 1 := by simp; omega
      have hsn : ((es.take i).map exCut).map exV ++ [AV.agg [(1, AV.str (es[i].1.take 150)), (1, AV.str (es[i].2.take 200))]] = ((es.take (i + 1)).map exCut).map exV := by
        rw [← mapT_succ exCut es hil, List.map_append]; rfl
      simp only [b_glto_0, cOwn, zOwn, c1, c2, hget, hga, exV, t1, t2, Int.toNat_natCast, List.length_map, go_sem, Nat.reduceDiv, Nat.reduceMod, ↓reduceIte, Nat.reduceEqDiff, Nat.reduceBEq, Nat.reduceSub, Nat.reduceLT, Nat.reduceAdd, Nat.reduceLeDiff, reduceCtorEq, Int.reduceEq, Int.reduceNe, Int.reduceLT, Int.reduceLE, Int.reduceToNat]
      (repeat' apply And.intro)
      all_goals first | omega | (rw [hlen]; (first | omega | (simp only [lenOk, bytesOk, inI, IntKind.bits, List.length_append, Bs_len, List.length_cons, List.length_nil, List.length_map, List.length_take, List.length_drop, List.length_replicate]; omega))) | skip
      refine hR _ (i + 1) ⟨by omega, by omega⟩ (by omega) ?_
      rw [hsn]; rfl
    · have e : es.take i = es.take 20 := by
        rcases Nat.lt_or_ge i es.length with h | h
        · rw [show i = 20 by omega]
        · rw [List.take_of_length_le h, List.take_of_length_le (by omega)]
      have el : ((es.take 20).map exCut).length = i := by rw [List.length_map, List.length_take]; omega
      have hcc : decide ((i : Int) < (es.length : Int)) = false ∨ (decide ((i : Int) < (es.length : Int)) = true ∧ decide ((i : Int) < 20) = false) := by
        rcases Nat.lt_or_ge i es.length with h | h
        · exact .inr ⟨decide_eq_true (by omega), decide_eq_false (by omega)⟩
        · exact .inl (decide_eq_false (by omega))
      rw [el, e]
      have hel : ((fs.take 20).map (List.take 300)).length = min fs.length 20 := by rw [List.length_map, List.length_take]; omega
      rw [hel]
      rcases hcc with c1 | ⟨c1, c2⟩
      all_goals (
        first
          | simp only [b_glto_0, t_glto_1, cOwn, zOwn, c1, c2, List.length_map, go_sem, Nat.reduceDiv, Nat.reduceMod, ↓reduceIte, Nat.reduceEqDiff, Nat.reduceBEq, Nat.reduceSub, Nat.reduceLT, Nat.reduceAdd, Nat.reduceLeDiff, reduceCtorEq, Int.reduceEq, Int.reduceNe, Int.reduceLT, Int.reduceLE, Int.reduceToNat]
          | simp only [b_glto_0, t_glto_1, cOwn, zOwn, c1, List.length_map, go_sem, Nat.reduceDiv, Nat.reduceMod, ↓reduceIte, Nat.reduceEqDiff, Nat.reduceBEq, Nat.reduceSub, Nat.reduceLT, Nat.reduceAdd, Nat.reduceLeDiff, reduceCtorEq, Int.reduceEq, Int.reduceNe, Int.reduceLT, Int.reduceLE, Int.reduceToNat]
        refine loop2P [] [1, 2, 3, 6] [0, 1, 2, 3, 4] (fun j : Nat => ⟨[(1, .ref 0 0 0), (2, .ref 1 0 0), (3, .ref 2 0 0), (6, .int .i64 (j : Int))],
          [.cells 26 [(20, .blob (m.map U)), (1, .str u), (1, .int .i64 t), (1, .int .i64 z), (1, .sl ke (es.map exV)), (1, .sl 1 (fs.map AV.str)), (1, .str d)], .cells 30 zOwn, .cells 30 (cOwn m u' t z (.own 3 i) (.own 4 j) d'), .row 48 2 i (((es.take 20).map exCut).map exV), .row 9 1 j (((fs.take j).map (List.take 300)).map AV.str)]⟩)
          (fun j => j ≤ fs.length ∧ j ≤ 20) (fun j => 20 - j) 0 (by rfl) ⟨Nat.zero_le _, Nat.zero_le _⟩ ⟨rfl, by rfl⟩ (fun j hj R2 hR2 => ?_)
        obtain ⟨j1, j2⟩ := hj
        by_cases hjl : j < fs.length ∧ j < 20
        · obtain ⟨hjl, hj20⟩ := hjl
          have d1 : decide ((j : Int) < (fs.length : Int)) = true := decide_eq_true (by omega)
          have d2 : decide ((j : Int) < 20) = true := decide_eq_true (by omega)
          have hget := getD_map AV.str fs [] (.str []) hjl
          have hga : fs.getD j [] = fs[j] := by simp [List.getD_eq_getElem?_getD, List.getElem?_eq_getElem hjl]
          have x1 := l6 fs[j] (List.getElem_mem _)
          have t1 := tk_min fs[j] 300
          have t1 : fs[j].take (min (fs[j].length : Int) 300).toNat = fs[j].take 300 := t1
          have hlen : (((fs.take j).map (List.take 300)).map AV.str ++ [AV.str (fs[j].take 300)]).length = j + 1 := by simp; omega
          have hsn : ((fs.take j).map (List.take 300)).map AV.str ++ [AV.str (fs[j].take 300)] = ((fs.take (j + 1)).map (List.take 300)).map AV.str := by
            rw [← mapT_succ (List.take 300) fs hjl, List.map_append]; rfl
          simp only [b_glto_1, cOwn, zOwn, d1, d2, hget, hga, t1, Int.toNat_natCast, List.length_map, go_sem, Nat.reduceDiv, Nat.reduceMod, ↓reduceIte, Nat.reduceEqDiff, Nat.reduceBEq, Nat.reduceSub, Nat.reduceLT, Nat.reduceAdd, Nat.reduceLeDiff, reduceCtorEq, Int.reduceEq, Int.reduceNe, Int.reduceLT, Int.reduceLE, Int.reduceToNat]
          (repeat' apply And.intro)
          all_goals first | omega | (rw [hlen]; (first | omega | (simp only [lenOk, bytesOk, inI, IntKind.bits, List.length_append, Bs_len, List.length_cons, List.length_nil, List.length_map, List.length_take, List.length_drop, List.length_replicate]; omega))) | skip
          refine hR2 _ (j + 1) ⟨by omega, by omega⟩ (by omega) ?_
          rw [hsn]; rfl
        · have e2 : fs.take j = fs.take 20 := by
            rcases Nat.lt_or_ge j fs.length with h | h
            · rw [show j = 20 by omega]
            · rw [List.take_of_length_le h, List.take_of_length_le (by omega)]
          have ej : min fs.length 20 = j := by omega
          have hdd : decide ((j : Int) < (fs.length : Int)) = false ∨ (decide ((j : Int) < (fs.length : Int)) = true ∧ decide ((j : Int) < 20) = false) := by
            rcases Nat.lt_or_ge j fs.length with h | h
            · exact .inr ⟨decide_eq_true (by omega), decide_eq_false (by omega)⟩
            · exact .inl (decide_eq_false (by omega))
          rw [ej, e2]
          rcases hdd with d1 | ⟨d1, d2⟩
          · simp only [b_glto_1, t_glto_0, r_glto, cOwn, zOwn, d1, List.length_map, go_sem, Nat.reduceDiv, Nat.reduceMod, ↓reduceIte, Nat.reduceEqDiff, Nat.reduceBEq, Nat.reduceSub, Nat.reduceLT, Nat.reduceAdd, Nat.reduceLeDiff, reduceCtorEq, Int.reduceEq, Int.reduceNe, Int.reduceLT, Int.reduceLE, Int.reduceToNat]
          · simp only [b_glto_1, t_glto_0, r_glto, cOwn, zOwn, d1, d2, List.length_map, go_sem, Nat.reduceDiv, Nat.reduceMod, ↓reduceIte, Nat.reduceEqDiff, Nat.reduceBEq, Nat.reduceSub, Nat.reduceLT, Nat.reduceAdd, Nat.reduceLeDiff, reduceCtorEq, Int.reduceEq, Int.reduceNe, Int.reduceLT, Int.reduceLE, Int.reduceToNat])
  · cases hs
def lgofS : Spec := fun xs hp => match xs, hp with
  | [.agg [(20, .blob m), (1, .str u), (1, .int .i64 t), (1, .int .i64 z), (1, .sl ke es), (1, .sl kf fs), (1, .str d)]], [] =>
    some ⟨.agg (cOwn (unV m) u t z (.own 0 (es.map unEx).length) (.own 1 1) d), [.row 47 2 (es.map unEx).length ((es.map unEx).map exV), .row 9 1 1 ((fs.map unS).map AV.str)],
      argG m ke es kf fs ∧ (unV m).length = 20 ∧ es.length ≤ 1000000 ∧ fs.length ≤ 1000000⟩
  | _, _ => none
set_option maxHeartbeats 4000000 in
theorem lgof_ok : FnOk Tryz.prog 6 lgofS := by
  refine fn_slim2 Tryz.func6 s_glof (Φ := phiL []) phi_nil ?_
  intro xs hp r hs hp'
  unfold lgofS at hs
  split at hs
  · injection hs with hs; subst hs
    rename_i m u t z ke es kf fs d
    obtain ⟨⟨q1, q2, q3, q4, q5⟩, l1, l2, l3⟩ := hp'
    generalize unV m = m at *
    subst q1
    generalize es.map unEx = es at *
    subst q2
    generalize fs.map unS = fs at *
    subst q3 q5
    rw [List.length_map] at l2 l3
    refine ⟨len_le (by kernel_rfl), ?_⟩
    simp only [c_glof, go_sem, Nat.reduceDiv, Nat.reduceMod, ↓reduceIte, Nat.reduceEqDiff, Nat.reduceBEq, Nat.reduceSub, Nat.reduceLT, Nat.reduceAdd, Nat.reduceLeDiff, reduceCtorEq, Int.reduceEq, Int.reduceNe, Int.reduceLT, Int.reduceLE, Int.reduceToNat]
    refine ⟨l1, ?_⟩
    refine loop2P [(4228, 47, 2), (4229, 9, 1)] [1, 2, 3, 4] [0, 1, 2, 3, 4] (fun i : Nat => ⟨[(1, .ref 0 0 0), (2, .ref 1 0 0), (3, .ref 2 0 0), (4, .int .i64 (i : Int))],
      [.cells 30 [(20, .blob (m.map U)), (1, .str u), (1, .int .i64 t), (1, .int .i64 z), (1, .sl ke (es.map exV)), (1, .sl 1 (fs.map AV.str)), (1, .str d)], .cells 26 zOwn, .cells 26 (cOwn m u t z (.own 3 i) (.own 4 0) d), .row 47 2 i ((es.take i).map exV), .row 9 1 0 []]⟩)
      (fun i => i ≤ es.length) (fun i => es.length - i) 0 (by rfl) (Nat.zero_le _) ⟨rfl, by rfl⟩ (fun i hi R hR => ?_)
    by_cases hil : i < es.length
    · have c1 : decide ((i : Int) < (es.length : Int)) = true := decide_eq_true (by omega)
      have hk : ke = 2 := q4.resolve_right (by intro h; have := congrArg List.length h; simp at this; rw [this] at hil; simp at hil)
      subst hk
      have hget := getD_map exV es ([], []) (.agg [(1, (.str [])), (1, (.str []))]) hil
      have hga : es.getD i ([], []) = es[i] := by simp [List.getD_eq_getElem?_getD, List.getElem?_eq_getElem hil]
      have hlen : ((es.take i).map exV ++ [AV.agg [(1, AV.str es[i].1), (1, AV.str es[i].2)]]).length = i + 1 := by simp; omega
      have hsn : (es.take i).map exV ++ [AV.agg [(1, AV.str es[i].1), (1, AV.str es[i].2)]] = (es.take (i + 1)).map exV := mapT_succ exV es hil
      simp only [b_glof_0, cOwn, zOwn, c1, hget, hga, exV, Int.toNat_natCast, List.length_map, go_sem, Nat.reduceDiv, Nat.reduceMod, ↓reduceIte, Nat.reduceEqDiff, Nat.reduceBEq, Nat.reduceSub, Nat.reduceLT, Nat.reduceAdd, Nat.reduceLeDiff, reduceCtorEq, Int.reduceEq, Int.reduceNe, Int.reduceLT, Int.reduceLE, Int.reduceToNat]
      (repeat' apply And.intro)
      all_goals first | omega | (rw [hlen]; (first | omega | (simp only [lenOk, bytesOk, inI, IntKind.bits, List.length_append, Bs_len, List.length_cons, List.length_nil, List.length_map, List.length_take, List.length_drop, List.length_replicate]; omega))) | skip
      refine hR _ (i + 1) hil (by omega) ?_
      rw [hsn]; rfl
    · have c1 : decide ((i : Int) < (es.length : Int)) = false := decide_eq_false (by omega)
      obtain rfl : i = es.length := by omega
      rw [List.take_length]
      simp only [b_glof_0, t_glof_0, r_glof, cOwn, zOwn, c1, List.length_map, go_sem, Nat.reduceDiv, Nat.reduceMod, ↓reduceIte, Nat.reduceEqDiff, Nat.reduceBEq, Nat.reduceSub, Nat.reduceLT, Nat.reduceAdd, Nat.reduceLeDiff, reduceCtorEq, Int.reduceEq, Int.reduceNe, Int.reduceLT, Int.reduceLE, Int.reduceToNat]
      (repeat' apply And.intro)
      all_goals first | omega | (first | omega | (simp only [lenOk, bytesOk, inI, IntKind.bits, List.length_append, Bs_len, List.length_cons, List.length_nil, List.length_map, List.length_take, List.length_drop, List.length_replicate]; omega)) | rfl | skip
  · cases hs
end Go.Proofs.YtfabdnpeohpgnaaGreatDoor
namespace Go.Proofs.YtfabdnpeohpgnaaGreatDoor
set_option linter.all false
open Go.RowKit
open Go.Lib (index hasPrefix cut indexAny itoa decDigits)
def zs20 : List UInt8 := List.replicate 20 0
def exH : ChgL := ⟨zs20, [117], 0, 0, [([98, 114, 97, 110, 99, 104], [120, 10])], [[97]], [100]⟩
theorem exH_right : rightH exH = true := by decide
def exRest : List UInt8 := [10, 117, 10, 48, 32, 48, 32, 98, 114, 97, 110, 99, 104, 58, 120, 92, 110, 10, 97, 10, 10, 100]
theorem itoa_0 : itoa 0 = [48] := by rw [itoa_dec (by decide), show (0 : Int).toNat = 0 from rfl, decD_small (by decide)]; rfl
theorem exH_body : bodyH exH = hexL zs20 ++ exRest := by
  unfold bodyH dateT exH
  simp only
  rw [itoa_0]; rfl
theorem exH_len : (bodyH exH).length = 62 := by
  rw [exH_body, List.length_append, hexL_length]; rfl
theorem exH_drop : (bodyH exH).drop 40 = exRest := by
  rw [exH_body]
  exact List.drop_left' (by rw [hexL_length]; rfl)
theorem exH_read : chgB (bodyH exH) = true ∧ chgC (bodyH exH) = exH := chg_body exH_right rfl
theorem exH_size : sizeH exH := ⟨rfl, by decide, by decide, by decide, by decide, by decide, by decide, by decide, by decide, ⟨by decide, by decide⟩, ⟨by decide, by decide⟩⟩
def exHB : List UInt8 := bodyH exH
theorem exHB_len : exHB.length = 62 := exH_len
theorem exHB_drop : exHB.drop 40 = exRest := exH_drop
theorem exHPr (pr : Prop) : gprnR ⟨unV (List.replicate 20 (Value.int .u8 0)), [117], 0, 0, [unEx (.agg [(1, .str [98, 114, 97, 110, 99, 104]), (1, .str [120, 10])])], [unS (.str [97])], [100]⟩ pr =
    some ⟨.tup [.own 0 0, .int .i64 0], [.row 5 1 0 (Bs exHB)], pr⟩ := by
  have : (⟨unV (List.replicate 20 (Value.int .u8 0)), [117], 0, 0, [unEx (.agg [(1, .str [98, 114, 97, 110, 99, 104]), (1, .str [120, 10])])], [unS (.str [97])], [100]⟩ : ChgL) = exH := rfl
  rw [this]
  unfold gprnR exHB
  rw [if_pos exH_right]
theorem exHRd (pr : Prop) : gparR (chgC exHB) (chgB exHB) pr = some ⟨.tup [.agg [(20, .blob (zs20.map U)), (1, .str [117]), (1, .int .i64 0), (1, .int .i64 0), (1, .own 0 1), (1, .own 1 1), (1, .str [100])], .int .i64 0],
    [.row 48 2 1 [.agg [(1, .str [98, 114, 97, 110, 99, 104]), (1, .str [120, 10])]], .row 9 1 1 [.str [97]]], pr⟩ := by
  unfold gparR exHB
  rw [exH_read.1, exH_read.2]; rfl
def gknownS : Spec := fun xs hp => match xs, hp with
  | [], [] => some ⟨.bool true, [], True⟩
  | _, _ => none
theorem unV_z20 : List.replicate 20 (Value.int .u8 0) = List.map U (unV (List.replicate 20 (Value.int .u8 0))) := rfl
theorem flat_By (l : List UInt8) : ∀ x, x ∈ Bs l → flatB 4 x = true := by
  intro x hx
  obtain ⟨u, _, rfl⟩ := List.mem_map.1 hx
  rfl
theorem flx_by (l : List UInt8) : (∀ x ∈ Bs l, flatB 4 x = true) = True := eq_true (flat_By l)
theorem flx_ex (l : List ExL) : (∀ x ∈ l.map exV, flatB 4 x = true) = True := eq_true fun x hx => by
  obtain ⟨u, _, rfl⟩ := List.mem_map.1 hx; rfl
theorem flx_st (l : List (List UInt8)) : (∀ x ∈ l.map AV.str, flatB 4 x = true) = True := eq_true fun x hx => by
  obtain ⟨u, _, rfl⟩ := List.mem_map.1 hx; rfl
theorem flx_of {α : Type} (l : List α) (f : α → AV) (h : ∀ a, flatB 4 (f a) = true) : ∀ x ∈ l.map f, flatB 4 x = true := fun x hx => by
  obtain ⟨u, _, rfl⟩ := List.mem_map.1 hx; exact h u
set_option maxHeartbeats 2000000 in
theorem gknown_ok : FnOk Tryz.prog 9 gknownS := by
  refine fn_slim2 Tryz.func9 s_gknown (Φ := phiL [(7, [], gprnS), (12, [], gparS)]) (phi_cons gprn_ok (by kernel_rfl) (phi_cons gpar_ok (by kernel_rfl) phi_nil)) ?_
  intro xs hp r hs hp'
  unfold gknownS at hs
  split at hs
  · injection hs with hs; subst hs
    refine ⟨len_le (by kernel_rfl), ?_⟩
    have h1 := exHB_len
    have h2 := exHB_drop
    have d1 : decide ((43 : Int) < (exHB.length : Int)) = true := decide_eq_true (by omega)
    have h3 : ((exHB.length : Int) - 40).toNat = 22 := by omega
    have h4 : (Bs exHB).drop 40 = Bs exRest := by rw [← h2]; simp [Bs]
    have h5 : (Bs exRest).take 22 = Bs exRest := List.take_of_length_le (by rw [Bs_len]; decide)
    have d2 : decide (exRest = [10, 117, 10, 48, 32, 48, 32, 98, 114, 97, 110, 99, 104, 58, 120, 92, 110, 10, 97, 10, 10, 100]) = true := rfl
    simp only [c_gknown, r_gknown, gprnS, exHPr, gparS, unB_Bs, exHRd, d1, d2, h3, h4, h5, ↓flx_by, go_sem, Nat.reduceDiv, Nat.reduceMod, ↓reduceIte, Nat.reduceEqDiff, Nat.reduceBEq, Nat.reduceSub, Nat.reduceLT, Nat.reduceAdd, Nat.reduceLeDiff, reduceCtorEq, Int.reduceEq, Int.reduceNe, Int.reduceLT, Int.reduceLE, Int.reduceToNat]
    refine ⟨⟨⟨unV_z20, rfl, rfl, .inl rfl, rfl⟩, exH_size⟩, ?_⟩
    (repeat' apply And.intro)
    all_goals first | omega | rfl | (intro x hx; rw [List.mem_singleton.1 hx]; rfl) | skip
    exact flx_of [[97]] AV.str (fun _ => rfl)
  · cases hs
end Go.Proofs.YtfabdnpeohpgnaaGreatDoor
namespace Go.Proofs.YtfabdnpeohpgnaaGreatDoor
set_option linter.all false
open Go.RowKit
open Go.Lib (index hasPrefix cut indexAny itoa decDigits)
def chgB9 (c : ChgL) : Prop := c.man.length = 20 ∧ c.user.length ≤ 9223372036854775807 ∧ inI c.time ∧ inI c.zone ∧ c.extras.length ≤ 9223372036854775807 ∧ (∀ x ∈ c.extras, x.1.length ≤ 9223372036854775807 ∧ x.2.length ≤ 9223372036854775807) ∧
  c.files.length ≤ 9223372036854775807 ∧ (∀ f ∈ c.files, f.length ≤ 9223372036854775807) ∧ c.desc.length ≤ 9223372036854775807
theorem max_of {c : ChgL} (h : chgB9 c) : maxH c := by
  obtain ⟨h1, h2, h3, h4, h5, h6, h7, h8, h9⟩ := h
  exact ⟨h1, h2, h5, h6, h7, h8, h9⟩
theorem sum_le (l : List (List UInt8)) (k : Nat) (h : ∀ x ∈ l, x.length ≤ k) : sumL l ≤ k * l.length := by
  induction l with
  | nil => simp [sumL]
  | cons x l ih =>
    have h1 := h x (List.mem_cons_self ..)
    have h2 := ih fun y hy => h y (List.mem_cons_of_mem _ hy)
    simp only [sumL, List.map_cons, List.sum_cons, List.length_cons] at h2 ⊢
    rw [Nat.mul_add, Nat.mul_one]; omega
theorem exT_le (x : ExL) : (exT x).length ≤ x.1.length + 2 * x.2.length + 1 := by
  have := tol_len x.2
  unfold exT
  rw [List.length_append, List.length_cons]; omega
theorem exsT_le (es : List ExL) (k : Nat) (h : ∀ x ∈ es, x.1.length + 2 * x.2.length + 2 ≤ k) : (exsT es).length ≤ k * es.length := by
  cases es with
  | nil => simp [exsT]
  | cons y es =>
    have hf : ∀ l : List ExL, (∀ x ∈ l, x.1.length + 2 * x.2.length + 2 ≤ k) → ((l.map exT).flatMap ((0 : UInt8) :: ·)).length ≤ k * l.length := by
      intro l
      induction l with
      | nil => intro _; simp
      | cons z l ih =>
        intro hl
        have h1 := hl z (List.mem_cons_self ..)
        have h2 := ih fun y hy => hl y (List.mem_cons_of_mem _ hy)
        have h3 := exT_le z
        simp only [List.map_cons, List.flatMap_cons, List.length_append, List.length_cons]
        rw [Nat.mul_add, Nat.mul_one]; omega
    have h1 := h y (List.mem_cons_self ..)
    have h2 := hf es fun y hy => h y (List.mem_cons_of_mem _ hy)
    have h3 := exT_le y
    simp only [exsT, joinB, List.map_cons, List.length_append, List.length_cons]
    rw [Nat.mul_add, Nat.mul_one]; omega
theorem toH_size (c : ChgL) (h : chgB9 c) : sizeH (toH c) ∧ (bodyH (toH c)).length ≤ 100000 := by
  obtain ⟨h1, h2, h3, h4, h5, h6, h7, h8, h9⟩ := h
  have u1 : (toH c).user.length ≤ 200 := by simp only [toH, List.length_take]; omega
  have d1 : (toH c).desc.length ≤ 500 := by simp only [toH, List.length_take]; omega
  have e1 : (toH c).extras.length ≤ 20 := by simp only [toH, List.length_map, List.length_take]; omega
  have f1 : (toH c).files.length ≤ 20 := by simp only [toH, List.length_map, List.length_take]; omega
  have e2 : ∀ x ∈ (toH c).extras, x.1.length ≤ 150 ∧ x.2.length ≤ 200 := by
    intro x hx
    obtain ⟨y, _, rfl⟩ := List.mem_map.1 hx
    simp only [exCut, List.length_take]; omega
  have f2 : ∀ f ∈ (toH c).files, f.length ≤ 300 := by
    intro f hf
    obtain ⟨y, _, rfl⟩ := List.mem_map.1 hf
    simp only [List.length_take]; omega
  have m1 : (toH c).man.length = 20 := h1
  have t1 : inI (toH c).time := h3
  have z1 : inI (toH c).zone := h4
  generalize toH c = d at *
  have g1 := exsT_le d.extras 552 fun x hx => by have := e2 x hx; omega
  have g2 := sum_le d.files 300 f2
  have g3 : 552 * d.extras.length ≤ 552 * 20 := Nat.mul_le_mul_left _ e1
  have g4 : 300 * d.files.length ≤ 300 * 20 := Nat.mul_le_mul_left _ f1
  have l1 := Lib.itoa_length_le d.time t1.1 t1.2
  have l2 := Lib.itoa_length_le d.zone z1.1 z1.2
  have hh := hexL_length d.man
  have hb := body_len d
  have hd : (dateT d).length = (itoa d.time).length + (1 + ((itoa d.zone).length + (exsT d.extras).length)) := by
    unfold dateT; simp only [List.length_append, List.length_cons]; omega
  refine ⟨⟨m1, by omega, by omega, by omega, fun x hx => ?_, fun f hf => ?_, by omega, by omega, by omega, t1, z1⟩, by omega⟩
  · have := e2 x hx; omega
  · have := f2 f hf; omega
theorem gprnR_t {c : ChgL} (h : rightH c = true) (pr : Prop) : gprnR c pr = some ⟨.tup [.own 0 0, .int .i64 0], [.row 5 1 0 (Bs (bodyH c))], pr⟩ := by
  unfold gprnR; rw [if_pos h]
theorem gprnR_f {c : ChgL} (h : rightH c = false) (pr : Prop) : gprnR c pr = some ⟨.tup [.con (.slice none 0 0), .int .i64 4], [], pr⟩ := by
  unfold gprnR; rw [h]; rfl
end Go.Proofs.YtfabdnpeohpgnaaGreatDoor
namespace Go.Proofs.YtfabdnpeohpgnaaGreatDoor
set_option linter.all false
open Go.RowKit
open Go.Lib (itoa)
end Go.Proofs.YtfabdnpeohpgnaaGreatDoor
namespace Go.Proofs.YtfabdnpeohpgnaaGreatDoor
set_option linter.all false
open Go.RowKit Go.ChangeShapes Go.WideShapes Go.ChangeAt Go.Deep
section
variable {H : Type} {enc : TypeId × Value → H} {P : Program} {w : World} {base : Nat} {spare : Nat → Bool} {held : Bool}
end
end Go.Proofs.YtfabdnpeohpgnaaGreatDoor
namespace Go.Proofs.YtfabdnpeohpgnaaGreatDoor
set_option linter.all false
open Go.RowKit Go.ChangeShapes Go.WideShapes Go.ChangeAt Go.Deep
section
variable {H : Type} {enc : TypeId × Value → H} {P : Program} {w : World} {base : Nat} {spare : Nat → Bool} {held : Bool}
end
end Go.Proofs.YtfabdnpeohpgnaaGreatDoor
namespace Go.Proofs.YtfabdnpeohpgnaaGreatDoor
set_option linter.all false
open Go.RowKit Go.ChangeShapes Go.WideShapes Go.ChangeAt Go.Deep
section
variable {H : Type} {enc : TypeId × Value → H} {P : Program} {w : World} {base : Nat} {spare : Nat → Bool} {held : Bool}
theorem trod_id {ta e : TypeId} {fuel : Nat} {cs : List Value} {x : DataW H × List MemPlace} (ha : P.underlying ta = some (.array 20 e)) (he : P.underlying e = some (.int .u8)) (hce : P.cellsOf e = 1) (hca : P.cellsOf ta = 20)
    (h : DataW.trod enc P w base spare held fuel ta cs = some x) : ∃ l : List UInt8, cs = l.map U ∧ l.length = 20 := by
  obtain ⟨xs, m, _, _, hl, hn, hel⟩ := DataW.trod_array ha h
  rw [hca] at hl
  obtain ⟨l, hlen, hp⟩ := list_of 20 (fun i (u : UInt8) => cs[i]? = some (U u)) (fun i hi => by
    have h5 := hel i hi
    rw [hce] at h5
    obtain ⟨x, hxj⟩ : ∃ x, xs[i]? = some x := ⟨xs[i]'(by omega), List.getElem?_eq_getElem (by omega)⟩
    rw [hxj] at h5
    obtain ⟨a, ea, _, wa⟩ := DataW.trod_int he h5
    have h4 : (Lit.int .u8 a).wf = true := wa
    simp [Lit.wf, IntKind.min, IntKind.max, IntKind.signed, IntKind.bits] at h4
    refine ⟨UInt8.ofNat a.toNat, ?_⟩
    have e4 := congrArg (fun l => l[0]?) ea
    simp only [List.getElem?_take, List.getElem?_drop, List.getElem?_cons_zero] at e4
    simp only [Nat.mul_one, Nat.add_zero] at e4
    rw [if_pos (by omega)] at e4
    rw [e4]
    unfold U
    congr 2
    simp
    omega)
  refine ⟨l, ?_, hlen⟩
  apply List.ext_getElem?
  intro i
  by_cases hi : i < 20
  · rw [hp i (by omega), List.getElem?_map, List.getElem?_eq_getElem (by omega)]; rfl
  · rw [List.getElem?_eq_none (by omega), List.getElem?_eq_none (by rw [List.length_map]; omega)]
theorem drop_split {α : Type} (c : List α) (a k : Nat) : c.drop a = (c.drop a).take k ++ c.drop (a + k) := by
  rw [← List.drop_drop, List.take_append_drop]
end
end Go.Proofs.YtfabdnpeohpgnaaGreatDoor
namespace Go.Proofs.YtfabdnpeohpgnaaGreatDoor
set_option linter.all false
open Go.RowKit Go.ChangeShapes Go.WideShapes Go.ChangeAt Go.Deep
section
variable {H : Type} {enc : TypeId × Value → H} {P : Program} {w : World} {base : Nat} {spare : Nat → Bool} {held : Bool}
theorem cell_lt {b o : Nat} {u : Value} (h : w.cell? ⟨b, o, none⟩ = some u) : b < w.heap.size := by
  rcases Nat.lt_or_ge b w.heap.size with h1 | h1
  · exact h1
  · simp [World.cell?, Array.getElem?_eq_none h1] at h
theorem flat_get (uss : List (List Value)) (k : Nat) (hk : ∀ us ∈ uss, us.length = k) (i j : Nat) (hi : i < uss.length) (hj : j < k) : uss.flatten[i * k + j]? = uss[i][j]? := by
  induction uss generalizing i with
  | nil => simp at hi
  | cons us uss ih =>
    have hl := hk us (List.mem_cons_self ..)
    cases i with
    | zero => simp only [List.flatten_cons, Nat.zero_mul, Nat.zero_add, List.getElem_cons_zero]; rw [List.getElem?_append_left (by omega)]
    | succ i =>
      simp only [List.flatten_cons, List.getElem_cons_succ]
      rw [List.getElem?_append_right (by rw [hl, Nat.succ_mul]; omega), hl, show (i + 1) * k + j - k = i * k + j by rw [Nat.succ_mul]; omega]
      exact ih (fun us h => hk us (List.mem_cons_of_mem _ h)) i (by simpa using hi)
theorem flat_len (uss : List (List Value)) (k : Nat) (hk : ∀ us ∈ uss, us.length = k) : uss.flatten.length = uss.length * k := by
  induction uss with
  | nil => simp
  | cons us uss ih => rw [List.flatten_cons, List.length_append, hk us (List.mem_cons_self ..), ih fun u h => hk u (List.mem_cons_of_mem _ h), List.length_cons, Nat.succ_mul]; omega
theorem open_sl {S : Nat → Prop} {ρ : Rho} (hS : ∀ b, b < w.heap.size → S b) {t e : TypeId} {k : Nat} (ht : P.underlying t = some (.slice e)) (hk : P.cellsOf e = k) (k0 : 0 < k) {α : Type} (g : α → AV) (Pr : α → Prop)
    (hel : ∀ fuel cs x, DataW.trod enc P w base spare held fuel e cs = some x → ∃ a, Cs w S rho0 (g a) cs ∧ cs.length = k ∧ Pr a)
    {fuel : Nat} {cs : List Value} {x : DataW H × List MemPlace} (h : DataW.trod enc P w base spare held fuel t cs = some x) : ∃ (v : Value) (xs : List α), cs = [v] ∧ Cs w S ρ (.sl k (xs.map g)) [v] ∧ xs.length ≤ 9223372036854775807 ∧ ∀ a ∈ xs, Pr a := by
  rcases open_slice ht h with ⟨h0, _⟩ | ⟨a, len, cap, m, n, D, Pl, hcs, hb, hl, hm, hmm, hx, hi⟩
  · exact ⟨_, [], h0, .sl0 _ _ _ (by omega), by simp, fun a ha => by cases ha⟩
  · have hcap : cap ≤ 9223372036854775807 := by simpa [maxLen] using hm
    obtain ⟨ps, hlen, hp⟩ := list_of len (fun i (p : α × List Value) => Cs w S rho0 (g p.1) p.2 ∧ p.2.length = k ∧ Pr p.1 ∧ ∀ j, j < k → w.cell? (a.add (i * k + j)) = p.2[j]?) (fun i hil => by
      have him : i < m := by rw [hmm]; split <;> omega
      obtain ⟨cs', hc, ht'⟩ := hi i him
      rw [hk] at hc
      obtain ⟨_, hcl, hat⟩ := World.cells?_some hc
      obtain ⟨y, h1, h2, h3⟩ := hel _ _ _ ht'
      exact ⟨(y, cs'), h1, h2, h3, fun j hj => by rw [← Go.Deep.add_add]; exact hat j hj⟩)
    refine ⟨_, ps.map Prod.fst, hcs, ?_, by rw [List.length_map]; omega, fun y hy => ?_⟩
    rotate_left
    · obtain ⟨p, hpm, rfl⟩ := List.mem_map.1 hy
      obtain ⟨i, hil, rfl⟩ := List.getElem_of_mem hpm
      exact (hp i hil).2.2.1
    rcases Nat.eq_zero_or_pos len with h0 | h0
    · subst h0
      obtain rfl := List.eq_nil_of_length_eq_zero hlen
      exact .sl0 _ _ _ hcap
    · have hks : ∀ us ∈ ps.map Prod.snd, us.length = k := by
        intro us hus
        obtain ⟨p, hpm, rfl⟩ := List.mem_map.1 hus
        obtain ⟨i, hil, rfl⟩ := List.getElem_of_mem hpm
        exact (hp i hil).2.1
      have hfl := flat_len _ k hks
      rw [List.length_map, hlen] at hfl
      obtain ⟨b, off, spot⟩ := a
      have hc0 := (hp 0 (by omega)).2.2.2 0 k0
      have hs0 : (ps[0]'(by omega)).2[0]? = some ((ps[0]'(by omega)).2[0]'(by rw [(hp 0 (by omega)).2.1]; exact k0)) := List.getElem?_eq_getElem _
      rw [hs0] at hc0
      have hspot : spot = none := by simpa [Addr.add] using World.cell?_spot hc0
      subst hspot
      rw [add_spot] at hc0
      have hcell : ∀ j, j < (ps.map Prod.snd).flatten.length → w.cell? ⟨b, off + j, none⟩ = (ps.map Prod.snd).flatten[j]? := by
        intro j hj
        rw [hfl] at hj
        have hjk : j / k < len := (Nat.div_lt_iff_lt_mul k0).2 hj
        have hjm := Nat.mod_lt j k0
        have h1 := (hp (j / k) (by omega)).2.2.2 (j % k) hjm
        have h2 := flat_get (ps.map Prod.snd) k hks (j / k) (j % k) (by rw [List.length_map]; omega) hjm
        rw [show j / k * k + j % k = j by rw [Nat.mul_comm]; exact Nat.div_add_mod j k] at h1 h2
        rw [add_spot] at h1
        rw [h1, h2, List.getElem_map]
      have hagg : Cs w S rho0 (.agg (prs k ((ps.map Prod.fst).map g))) (ps.map Prod.snd).flatten := by
        refine .agg _ (ps.map Prod.snd) (by simp [prs]) (fun i hi => ?_) (fun i hi => ?_)
        · have hi2 : i < ps.length := by simpa [prs] using hi
          have e1 : (ps.map Prod.snd).getD i [] = ps[i].2 := by simp [List.getD_eq_getElem?_getD, List.getElem?_eq_getElem hi2]
          have e2 : (prs k ((ps.map Prod.fst).map g)).getD i (0, .top) = (k, g ps[i].1) := by simp [prs, List.getD_eq_getElem?_getD, List.getElem?_eq_getElem hi2]
          rw [e1, e2]; exact (hp i hi2).2.1
        · have hi2 : i < ps.length := by simpa [prs] using hi
          have e1 : (ps.map Prod.snd).getD i [] = ps[i].2 := by simp [List.getD_eq_getElem?_getD, List.getElem?_eq_getElem hi2]
          have e2 : (prs k ((ps.map Prod.fst).map g)).getD i (0, .top) = (k, g ps[i].1) := by simp [prs, List.getD_eq_getElem?_getD, List.getElem?_eq_getElem hi2]
          rw [e1, e2]; exact (hp i hi2).1
      have hlx : ((ps.map Prod.fst).map g).length = len := by simpa using hlen
      have := Cs.sl (ρ := ρ) k ((ps.map Prod.fst).map g) (ps.map Prod.snd).flatten b off cap (hS b (cell_lt hc0)) hagg (by rw [hfl, hlx]) hcell (by rw [hlx]; omega) hcap
      rwa [hlx] at this
theorem trod_ex {S : Nat → Prop} {t : TypeId} {f0 f1 : Field} {fuel : Nat} {cs : List Value} {x : DataW H × List MemPlace} (ht : P.underlying t = some (.struct #[f0, f1])) (o0 : f0.offset = 0) (o1 : f1.offset = 1) (t0 : P.underlying f0.type = some .string) (t1 : P.underlying f1.type = some .string)
    (c0 : P.cellsOf f0.type = 1) (c1 : P.cellsOf f1.type = 1) (hct : P.cellsOf t = 2) (hf : DataW.trod enc P w base spare held fuel t cs = some x) :
    ∃ a : List UInt8 × List UInt8, Cs w S rho0 (.agg [(1, .str a.1), (1, .str a.2)]) cs ∧ cs.length = 2 ∧ (a.1.length ≤ 9223372036854775807 ∧ a.2.length ≤ 9223372036854775807) := by
  obtain ⟨xs, n, _, rfl, hl, hlen, hf⟩ := DataW.trod_struct ht hf
  have k0 := hf 0 f0 rfl
  have k1 := hf 1 f1 rfl
  rw [hct] at hl
  match xs, hlen, cs, hl with
  | [y0, y1], _, [a0, a1], _ =>
    rw [o0, c0] at k0
    rw [o1, c1] at k1
    obtain ⟨⟨⟨s0⟩⟩, e0, _, l0⟩ := DataW.trod_string t0 k0
    obtain ⟨⟨⟨s1⟩⟩, e1, _, l1⟩ := DataW.trod_string t1 k1
    simp at e0 e1
    subst e0 e1
    refine ⟨(s0, s1), ?_, rfl, by simpa [ByteArray.size, maxLen] using l0, by simpa [ByteArray.size, maxLen] using l1⟩
    exact Css.cs ⟨[.string ⟨s0.toArray⟩], _, rfl, rfl, .str s0, [.string ⟨s1.toArray⟩], [], rfl, rfl, .str s1, rfl⟩
end
end Go.Proofs.YtfabdnpeohpgnaaGreatDoor
