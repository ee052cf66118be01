import Derived.Test.YtfabdnpeohpgnaaGreatDoorQT2p
import Derived.Test.YtfabdnpeohpgnaaGreatDoorQFNRight
import Derived.Test.YtfabdnpeohpgnaaGreatDoorChecked
import Derived.Test.YtfabdnpeohpgnaaGreatDoorQAMS
import Derived.Test.YtfabdnpeohpgnaaGreatDoorQShelf
namespace Go.Proofs.YtfabdnpeohpgnaaGreatDoor
set_option linter.all false
open Go.RowKit
open Go.Lib (index hasPrefix trimPrefix cut indexAny itoa)
def glineS : Spec := fun xs hp => match xs, hp with
  | [.ref 0 0 0], [.cells T [(1, .str s), (1, .bool b)]] => some ⟨.str (cut s [10]).1, [.cells T [(1, .str (cut s [10]).2.1), (1, .bool (b || !(cut s [10]).2.2))]], s.length < 4294967281⟩
  | _, _ => none
theorem gline_ok : FnOk Tryz.prog 25 glineS := by
  refine fn_slim2 Tryz.func25 s_gline (Φ := phiL [(26, [], cutS)]) (phi_cons cut_ok (by kernel_rfl) phi_nil) ?_
  intro xs hp r hs hp'
  unfold glineS at hs
  split at hs
  · injection hs with hs; subst hs
    rename_i T s b
    refine ⟨len_le (by kernel_rfl), ?_⟩
    cases b with
    | true =>
      simp only [c_gline, r_gline, cutS, Bool.true_or, go_sem, Nat.reduceDiv, Nat.reduceMod, ↓reduceIte, Nat.reduceEqDiff, Nat.reduceBEq, Nat.reduceSub, Nat.reduceLT, Nat.reduceAdd, Nat.reduceLeDiff, reduceCtorEq, Int.reduceEq, Int.reduceNe, Int.reduceLT, Int.reduceLE, Int.reduceToNat]
      exact hp'
    | false =>
      simp only [c_gline, r_gline, cutS, Bool.false_or, go_sem, Nat.reduceDiv, Nat.reduceMod, ↓reduceIte, Nat.reduceEqDiff, Nat.reduceBEq, Nat.reduceSub, Nat.reduceLT, Nat.reduceAdd, Nat.reduceLeDiff, reduceCtorEq, Int.reduceEq, Int.reduceNe, Int.reduceLT, Int.reduceLE, Int.reduceToNat]
      exact hp'
  · cases hs
theorem pre_head (s : List UInt8) : hasPrefix s [45] = decide (s.head? = some 45) := by
  cases s with
  | nil => rfl
  | cons c t =>
    show (([45] : List UInt8).isPrefixOf (c :: t)) = _
    rw [Bool.eq_iff_iff]; simp [List.isPrefixOf]
    exact eq_comm
noncomputable def gnumS : Spec := fun xs hp => match xs, hp with
  | [.ref 0 0 0, .str s], [.cells T [(1, .str r), (1, .bool b)]] => some ⟨.int .i64 (nmV s), [.cells T [(1, .str r), (1, .bool (b || !nmB s))]], s.length ≤ 1000000⟩
  | _, _ => none
set_option maxHeartbeats 2000000 in
theorem gnum_ok : FnOk Tryz.prog 27 gnumS := by
  refine fn_slim2 Tryz.func27 s_gnum (Φ := phiL [(45, [], cutPreS), (46, [], fdecS)]) (phi_cons cutPre_ok (by kernel_rfl) (phi_cons fdec_ok (by kernel_rfl) phi_nil)) ?_
  intro xs hp r hs hp'
  unfold gnumS at hs
  split at hs
  · injection hs with hs; subst hs
    rename_i s T rr b
    have p1 : s.length ≤ 1000000 := hp'
    refine ⟨len_le (by kernel_rfl), ?_⟩
    have hph := pre_head s
    have hdl : (s.drop 1).length ≤ s.length := by rw [List.length_drop]; omega
    have lt1 := decN_lt (s.drop 1)
    cases h1 : decide (s.head? = some 45) with
    | true =>
      have h1' := of_decide_eq_true h1
      rw [h1] at hph
      have ht : trimPrefix s [45] = s.drop 1 := by
        cases s with
        | nil => cases h1'
        | cons c t =>
          injection h1' with h1'; subst h1'
          rfl
      unfold nmV nmB
      rw [if_pos h1', if_pos h1']
      cases h2 : decB (s.drop 1) with
      | false =>
        have e0 := decN_f (decB_f h2)
        rw [e0]
        cases b <;> simp only [c_gnum, r_gnum, cutPreS, fdecS, hph, ht, h2, Bool.true_or, Bool.false_or, Bool.false_and, Bool.not_false, Bool.false_eq_true, if_false, go_sem, Nat.reduceDiv, Nat.reduceMod, ↓reduceIte, Nat.reduceEqDiff, Nat.reduceBEq, Nat.reduceSub, Nat.reduceLT, Nat.reduceAdd, Nat.reduceLeDiff, reduceCtorEq, Int.reduceEq, Int.reduceNe, Int.reduceLT, Int.reduceLE, Int.reduceToNat]
        all_goals first | omega | exact ⟨by omega, by omega, by omega⟩
      | true =>
        cases h3 : decide (decN (s.drop 1) = 0) with
        | true =>
          have h4 : decide (((decN (s.drop 1) : Nat) : Int) = 0) = true := decide_eq_true (by have := of_decide_eq_true h3; omega)
          cases b <;> simp only [c_gnum, r_gnum, cutPreS, fdecS, hph, ht, h2, h4, Bool.true_or, Bool.false_or, Bool.true_and, Bool.not_true, Bool.not_false, if_true, go_sem, Nat.reduceDiv, Nat.reduceMod, ↓reduceIte, Nat.reduceEqDiff, Nat.reduceBEq, Nat.reduceSub, Nat.reduceLT, Nat.reduceAdd, Nat.reduceLeDiff, reduceCtorEq, Int.reduceEq, Int.reduceNe, Int.reduceLT, Int.reduceLE, Int.reduceToNat]
          all_goals first | omega | exact ⟨by omega, by omega, by omega⟩
        | false =>
          have h4 : decide (((decN (s.drop 1) : Nat) : Int) = 0) = false := decide_eq_false (by have := of_decide_eq_false h3; omega)
          cases b <;> simp only [c_gnum, r_gnum, cutPreS, fdecS, hph, ht, h2, h4, Bool.true_or, Bool.false_or, Bool.true_and, Bool.not_true, Bool.not_false, if_true, go_sem, Nat.reduceDiv, Nat.reduceMod, ↓reduceIte, Nat.reduceEqDiff, Nat.reduceBEq, Nat.reduceSub, Nat.reduceLT, Nat.reduceAdd, Nat.reduceLeDiff, reduceCtorEq, Int.reduceEq, Int.reduceNe, Int.reduceLT, Int.reduceLE, Int.reduceToNat]
          all_goals first | omega | exact ⟨by omega, by omega, by omega⟩
    | false =>
      have h1' := of_decide_eq_false h1
      rw [h1] at hph
      have ht : trimPrefix s [45] = s := by unfold trimPrefix; rw [if_neg (by rw [hph]; simp)]
      unfold nmV nmB
      rw [if_neg h1', if_neg h1']
      cases h2 : decB s with
      | false =>
        have e0 := decN_f (decB_f h2)
        rw [e0]
        cases b <;> simp only [c_gnum, r_gnum, cutPreS, fdecS, hph, ht, h2, Bool.true_or, Bool.false_or, Bool.not_false, Bool.false_eq_true, if_false, go_sem, Nat.reduceDiv, Nat.reduceMod, ↓reduceIte, Nat.reduceEqDiff, Nat.reduceBEq, Nat.reduceSub, Nat.reduceLT, Nat.reduceAdd, Nat.reduceLeDiff, reduceCtorEq, Int.reduceEq, Int.reduceNe, Int.reduceLT, Int.reduceLE, Int.reduceToNat]
        all_goals first | omega | exact ⟨by omega, by omega, by omega⟩
      | true =>
        cases b <;> simp only [c_gnum, r_gnum, cutPreS, fdecS, hph, ht, h2, Bool.true_or, Bool.false_or, Bool.not_true, Bool.not_false, if_true, go_sem, Nat.reduceDiv, Nat.reduceMod, ↓reduceIte, Nat.reduceEqDiff, Nat.reduceBEq, Nat.reduceSub, Nat.reduceLT, Nat.reduceAdd, Nat.reduceLeDiff, reduceCtorEq, Int.reduceEq, Int.reduceNe, Int.reduceLT, Int.reduceLE, Int.reduceToNat]
        all_goals first | omega | exact ⟨by omega, by omega, by omega⟩
  · cases hs
end Go.Proofs.YtfabdnpeohpgnaaGreatDoor
namespace Go.Proofs.YtfabdnpeohpgnaaGreatDoor
set_option linter.all false
open Go.RowKit
open Go.Lib (index hasPrefix trimPrefix cut indexAny itoa)
theorem cutl1' (s p : List UInt8) : (cut s p).1.length ≤ s.length ∧ (cut s p).2.1.length ≤ s.length := by
  cases h : (cut s p).2.2 with
  | true =>
    have := congrArg List.length (cut_t h)
    simp only [List.length_append] at this; omega
  | false => rw [(cut_f h).1, (cut_f h).2]; simp
theorem psl_mem_len (c : UInt8) : ∀ (l o : List UInt8), o ∈ psl c l → o.length ≤ l.length
  | [], o, h => by rw [psl, List.mem_singleton] at h; rw [h]; simp
  | b :: l, o, h => by
    by_cases hb : b = c
    · subst hb
      rw [psl_cons_eq] at h
      rcases List.mem_cons.1 h with rfl | h
      · simp
      · have := psl_mem_len b l o h; simp only [List.length_cons]; omega
    · obtain ⟨x, t, e1, e2⟩ := psl_cons_ne hb l
      rw [e2] at h
      rcases List.mem_cons.1 h with rfl | h
      · have := psl_mem_len c l x (by rw [e1]; exact List.mem_cons_self ..)
        simp only [List.length_cons]; omega
      · have := psl_mem_len c l o (by rw [e1]; exact List.mem_cons_of_mem _ h)
        simp only [List.length_cons]; omega
def gexsS : Spec := fun xs hp => match xs, hp with
  | [.ref 0 0 0, .str m], [.cells T [(1, .str r), (1, .bool b)]] => some ⟨.own 1 (psl 0 m).length, [.cells T [(1, .str r), (1, .bool (b || (psl 0 m).any fun o => !exOk o))], .row 48 2 (psl 0 m).length (((psl 0 m).map exP).map exV)], m.length ≤ 1000000⟩
  | _, _ => none
def phiX : Phi := phiL [(47, [], splitS), (26, [], cutS), (48, [], gmeantS), (16, [], gtoldS)]
theorem phiX_ok : PhiOk Tryz.prog phiX := phi_cons split_ok (by kernel_rfl) (phi_cons cut_ok (by kernel_rfl) (phi_cons gmeant_ok (by kernel_rfl) (phi_cons gtold_ok (by kernel_rfl) phi_nil)))
theorem phiX_1 : phiX 47 = some ([], splitS) := rfl
theorem phiX_2 : phiX 26 = some ([], cutS) := rfl
theorem phiX_3 : phiX 48 = some ([], gmeantS) := rfl
theorem phiX_4 : phiX 16 = some ([], gtoldS) := rfl
set_option maxHeartbeats 4000000 in
theorem gexs_ok : FnOk Tryz.prog 28 gexsS := by
  refine fn_slim2 Tryz.func28 s_gexs phiX_ok ?_
  intro xs hp r hs hp'
  unfold gexsS at hs
  split at hs
  · injection hs with hs; subst hs
    rename_i m T rr b
    have p1 : m.length ≤ 1000000 := hp'
    have hpl := psl_join_len 0 m
    have hpm := psl_mem_len 0 m
    refine ⟨len_le (by kernel_rfl), ?_⟩
    simp only [c_gexs, phiX_1, splitS, go_sem, Nat.reduceDiv, Nat.reduceMod, ↓reduceIte, Nat.reduceEqDiff, Nat.reduceBEq, Nat.reduceSub, Nat.reduceLT, Nat.reduceAdd, Nat.reduceLeDiff, reduceCtorEq, Int.reduceEq, Int.reduceNe, Int.reduceLT, Int.reduceLE, Int.reduceToNat]
    generalize psl 0 m = ps at *
    refine ⟨by omega, ?_⟩
    refine loop2P [(5, 48, 2)] [0, 5, 13, 14, 15] [0, 1, 2] (fun i : Nat => ⟨[(0, .ref 0 0 0), (5, .own 2 i), (13, .own 1 0), (14, .int .i64 (ps.length : Int)), (15, .int .i64 (i : Int))],
      [.cells T [(1, .str rr), (1, .bool (b || (ps.take i).any fun o => !exOk o))], .row 9 1 0 (ps.map AV.str), .row 48 2 i (((ps.take i).map exP).map exV)]⟩)
      (fun i => i ≤ ps.length) (fun i => ps.length - i) 0 ?_ (Nat.zero_le _) ⟨rfl, by rfl⟩ (fun i hi R hR => ?_)
    · simp only [List.take_zero, List.any_nil, Bool.or_false, List.map_nil]
      rfl
    by_cases hil : i < ps.length
    · have c1 : decide ((i : Int) < (ps.length : Int)) = true := decide_eq_true (by omega)
      have hget := getD_map AV.str ps [] (AV.str []) hil
      have hga : ps.getD i [] = ps[i] := by simp [List.getD_eq_getElem?_getD, List.getElem?_eq_getElem hil]
      have hol := hpm ps[i] (List.getElem_mem _)
      have htk : ps.take (i + 1) = ps.take i ++ [ps[i]] := by rw [List.take_add_one, List.getElem?_eq_getElem hil]; rfl
      generalize ps[i] = o at *
      obtain ⟨l1, l2⟩ := cutl1' o [58]
      have l3 := mea_len (cut o [58]).2.1
      have hlen : (((ps.take i).map exP).map exV ++ [AV.agg [(1, AV.str (cut o [58]).1), (1, AV.str (meaL (cut o [58]).2.1))]]).length = i + 1 := by simp; omega
      have hrow : ((ps.take i).map exP).map exV ++ [AV.agg [(1, AV.str (cut o [58]).1), (1, AV.str (meaL (cut o [58]).2.1))]] = ((ps.take (i + 1)).map exP).map exV := by
        rw [htk, List.map_append, List.map_append]; rfl
      have hany : (b || (ps.take (i + 1)).any fun o => !exOk o) = ((b || (ps.take i).any fun o => !exOk o) || !exOk o) := by
        rw [htk, List.any_append, List.any_cons, List.any_nil, Bool.or_false, Bool.or_assoc]
      have hok : exOk o = ((cut o [58]).2.2 && decide (tolL (meaL (cut o [58]).2.1) = (cut o [58]).2.1)) := rfl
      rw [hok] at hany
      have fin : ∀ (bb : Bool) s'', (b || (ps.take (i + 1)).any fun o => !exOk o) = bb → kp [0, 5, 13, 14, 15] [0, 1, 2].length (toS s'') = some ⟨[(0, .ref 0 0 0), (5, .own 2 (i + 1)), (13, .own 1 0), (14, .int .i64 (ps.length : Int)), (15, .int .i64 ((i : Int) + 1))],
          [.cells T [(1, .str rr), (1, .bool bb)], .row 9 1 0 (ps.map AV.str), .row 48 2 (i + 1) (((ps.take i).map exP).map exV ++ [AV.agg [(1, AV.str (cut o [58]).1), (1, AV.str (meaL (cut o [58]).2.1))]])]⟩ → R s'' := by
        intro bb s'' hbb hk
        refine hR s'' (i + 1) hil (by omega) ?_
        rw [hk, hbb, ← hrow]; rfl
      generalize (b || (ps.take i).any fun o => !exOk o) = bi at *
      cases bi with
      | true =>
        simp only [b_gexs_0, c1, hget, hga, phiX_2, phiX_3, phiX_4, cutS, gmeantS, gtoldS, Int.toNat_natCast, List.length_map, go_sem, Nat.reduceDiv, Nat.reduceMod, ↓reduceIte, Nat.reduceEqDiff, Nat.reduceBEq, Nat.reduceSub, Nat.reduceLT, Nat.reduceAdd, Nat.reduceLeDiff, reduceCtorEq, Int.reduceEq, Int.reduceNe, Int.reduceLT, Int.reduceLE, Int.reduceToNat]
        exact ⟨⟨by omega, by omega⟩, hil, by omega, by omega, ⟨by rw [hlen]; (first | omega | (simp only [lenOk, bytesOk, inI, IntKind.bits, List.length_append, Bs_len, List.length_cons, List.length_nil, List.length_map, List.length_take, List.length_drop, List.length_replicate]; omega)), by rw [hlen]; (first | omega | (simp only [lenOk, bytesOk, inI, IntKind.bits, List.length_append, Bs_len, List.length_cons, List.length_nil, List.length_map, List.length_take, List.length_drop, List.length_replicate]; omega))⟩, ⟨by omega, by omega⟩, fin true _ (by rw [hany]; rfl) rfl⟩
      | false =>
        cases h1 : (cut o [58]).2.2 with
        | false =>
          simp only [b_gexs_0, c1, h1, hget, hga, phiX_2, phiX_3, phiX_4, cutS, gmeantS, gtoldS, Int.toNat_natCast, List.length_map, go_sem, Nat.reduceDiv, Nat.reduceMod, ↓reduceIte, Nat.reduceEqDiff, Nat.reduceBEq, Nat.reduceSub, Nat.reduceLT, Nat.reduceAdd, Nat.reduceLeDiff, reduceCtorEq, Int.reduceEq, Int.reduceNe, Int.reduceLT, Int.reduceLE, Int.reduceToNat]
          exact ⟨⟨by omega, by omega⟩, hil, by omega, by omega, ⟨by rw [hlen]; (first | omega | (simp only [lenOk, bytesOk, inI, IntKind.bits, List.length_append, Bs_len, List.length_cons, List.length_nil, List.length_map, List.length_take, List.length_drop, List.length_replicate]; omega)), by rw [hlen]; (first | omega | (simp only [lenOk, bytesOk, inI, IntKind.bits, List.length_append, Bs_len, List.length_cons, List.length_nil, List.length_map, List.length_take, List.length_drop, List.length_replicate]; omega))⟩, ⟨by omega, by omega⟩, fin true _ (by rw [hany, h1]; rfl) rfl⟩
        | true =>
          cases h2 : decide (tolL (meaL (cut o [58]).2.1) = (cut o [58]).2.1) with
          | true =>
            simp only [b_gexs_0, c1, h1, h2, hget, hga, phiX_2, phiX_3, phiX_4, cutS, gmeantS, gtoldS, Int.toNat_natCast, List.length_map, go_sem, Nat.reduceDiv, Nat.reduceMod, ↓reduceIte, Nat.reduceEqDiff, Nat.reduceBEq, Nat.reduceSub, Nat.reduceLT, Nat.reduceAdd, Nat.reduceLeDiff, reduceCtorEq, Int.reduceEq, Int.reduceNe, Int.reduceLT, Int.reduceLE, Int.reduceToNat]
            exact ⟨⟨by omega, by omega⟩, hil, by omega, by omega, by omega, ⟨by rw [hlen]; (first | omega | (simp only [lenOk, bytesOk, inI, IntKind.bits, List.length_append, Bs_len, List.length_cons, List.length_nil, List.length_map, List.length_take, List.length_drop, List.length_replicate]; omega)), by rw [hlen]; (first | omega | (simp only [lenOk, bytesOk, inI, IntKind.bits, List.length_append, Bs_len, List.length_cons, List.length_nil, List.length_map, List.length_take, List.length_drop, List.length_replicate]; omega))⟩, ⟨by omega, by omega⟩, fin false _ (by rw [hany, h1, h2]; rfl) rfl⟩
          | false =>
            simp only [b_gexs_0, c1, h1, h2, hget, hga, phiX_2, phiX_3, phiX_4, cutS, gmeantS, gtoldS, Int.toNat_natCast, List.length_map, go_sem, Nat.reduceDiv, Nat.reduceMod, ↓reduceIte, Nat.reduceEqDiff, Nat.reduceBEq, Nat.reduceSub, Nat.reduceLT, Nat.reduceAdd, Nat.reduceLeDiff, reduceCtorEq, Int.reduceEq, Int.reduceNe, Int.reduceLT, Int.reduceLE, Int.reduceToNat]
            exact ⟨⟨by omega, by omega⟩, hil, by omega, by omega, by omega, ⟨by rw [hlen]; (first | omega | (simp only [lenOk, bytesOk, inI, IntKind.bits, List.length_append, Bs_len, List.length_cons, List.length_nil, List.length_map, List.length_take, List.length_drop, List.length_replicate]; omega)), by rw [hlen]; (first | omega | (simp only [lenOk, bytesOk, inI, IntKind.bits, List.length_append, Bs_len, List.length_cons, List.length_nil, List.length_map, List.length_take, List.length_drop, List.length_replicate]; omega))⟩, ⟨by omega, by omega⟩, fin true _ (by rw [hany, h1, h2]; rfl) rfl⟩
    · have c1 : decide ((i : Int) < (ps.length : Int)) = false := decide_eq_false (by omega)
      obtain rfl : i = ps.length := by omega
      rw [List.take_length]
      simp only [b_gexs_0, t_gexs_0, r_gexs, c1, go_sem, Nat.reduceDiv, Nat.reduceMod, ↓reduceIte, Nat.reduceEqDiff, Nat.reduceBEq, Nat.reduceSub, Nat.reduceLT, Nat.reduceAdd, Nat.reduceLeDiff, reduceCtorEq, Int.reduceEq, Int.reduceNe, Int.reduceLT, Int.reduceLE, Int.reduceToNat]
  · cases hs
end Go.Proofs.YtfabdnpeohpgnaaGreatDoor
namespace Go.Proofs.YtfabdnpeohpgnaaGreatDoor
set_option linter.all false
open Go.RowKit
open Go.Lib (decDigits itoa atoiAll)
end Go.Proofs.YtfabdnpeohpgnaaGreatDoor
namespace Go.Proofs.YtfabdnpeohpgnaaGreatDoor
set_option linter.all false
open Go.RowKit
def b_rgkeyed_0 : ACode := (.seq (.seq (.reg none [⟨(some 16), (.mv (.t 3)), none⟩, ⟨(some 17), (.mv (.t 0)), none⟩, ⟨(some 18), (.len none true (.t 17)), none⟩, ⟨(some 19), (.bin .lss (.t 16) (.t 18)), none⟩]) (.cond (.t 19) .skip (.exit 0))) (.seq (.block 1 (.seq (.reg none [⟨(some 22), (.mv (.t 0)), none⟩, ⟨(some 23), (.mv (.t 3)), none⟩, ⟨(some 24), (.idxS (.t 22) (.t 23)), none⟩, ⟨(some 4), (.mv (.t 24)), none⟩]) (.seq (.reg none [⟨(some 25), (.mv (.t 4)), none⟩, ⟨(some 26), (.bin .geq (.t 25) (.c (.int .u8 97))), none⟩, ⟨(some 27), (.mv (.t 26)), none⟩, ⟨(some 28), (.mv (.t 4)), (some (27, true))⟩, ⟨(some 29), (.bin .leq (.t 28) (.c (.int .u8 122))), (some (27, true))⟩, ⟨(some 30), (.pick (.t 27) (.t 29) (.c (.bool false))), none⟩, ⟨(some 31), (.mv (.t 4)), none⟩, ⟨(some 32), (.bin .geq (.t 31) (.c (.int .u8 65))), none⟩, ⟨(some 33), (.mv (.t 32)), none⟩, ⟨(some 34), (.mv (.t 4)), (some (33, true))⟩, ⟨(some 35), (.bin .leq (.t 34) (.c (.int .u8 90))), (some (33, true))⟩, ⟨(some 36), (.pick (.t 33) (.t 35) (.c (.bool false))), none⟩, ⟨(some 37), (.mv (.t 4)), none⟩, ⟨(some 38), (.bin .geq (.t 37) (.c (.int .u8 48))), none⟩, ⟨(some 39), (.mv (.t 38)), none⟩, ⟨(some 40), (.mv (.t 4)), (some (39, true))⟩, ⟨(some 41), (.bin .leq (.t 40) (.c (.int .u8 57))), (some (39, true))⟩, ⟨(some 42), (.pick (.t 39) (.t 41) (.c (.bool false))), none⟩, ⟨(some 5), (.mv (.t 30)), none⟩, ⟨(some 6), (.mv (.t 36)), none⟩, ⟨(some 7), (.mv (.t 42)), none⟩]) (.seq (.reg none [⟨(some 43), (.mv (.t 5)), none⟩, ⟨(some 44), (.un .not (.t 43)), none⟩, ⟨(some 45), (.mv (.t 44)), none⟩, ⟨(some 46), (.mv (.t 6)), (some (45, true))⟩, ⟨(some 47), (.un .not (.t 46)), (some (45, true))⟩, ⟨(some 48), (.pick (.t 45) (.t 47) (.c (.bool false))), none⟩, ⟨(some 49), (.mv (.t 48)), none⟩, ⟨(some 50), (.mv (.t 7)), (some (49, true))⟩, ⟨(some 51), (.un .not (.t 50)), (some (49, true))⟩, ⟨(some 52), (.pick (.t 49) (.t 51) (.c (.bool false))), none⟩, ⟨(some 53), (.mv (.t 52)), none⟩, ⟨(some 54), (.mv (.t 4)), (some (53, true))⟩, ⟨(some 55), (.bin .neq (.t 54) (.c (.int .u8 45))), (some (53, true))⟩, ⟨(some 56), (.pick (.t 53) (.t 55) (.c (.bool false))), none⟩, ⟨(some 57), (.mv (.t 56)), none⟩, ⟨(some 58), (.mv (.t 4)), (some (57, true))⟩, ⟨(some 59), (.bin .neq (.t 58) (.c (.int .u8 95))), (some (57, true))⟩, ⟨(some 60), (.pick (.t 57) (.t 59) (.c (.bool false))), none⟩]) (.cond (.t 60) (.seq (.reg none [⟨(some 2), (.mv (.c (.bool false))), none⟩]) .ret) .skip))))) (.reg none [⟨(some 20), (.mv (.t 3)), none⟩, ⟨(some 21), (.bin .add (.t 20) (.c (.int .i64 1))), none⟩, ⟨(some 3), (.mv (.t 21)), none⟩])))
def t_rgkeyed_0 : ACode := (.seq (.reg none [⟨(some 2), (.mv (.c (.bool true))), none⟩]) .ret)
def c_rgkeyed : ACode := (.seq (.reg none [⟨(some 2), (.mv (.c (.bool false))), none⟩]) (.seq (.seq (.reg none [⟨(some 8), (.mv (.t 0)), none⟩, ⟨(some 9), (.len none true (.t 8)), none⟩, ⟨(some 10), (.bin .lss (.t 9) (.c (.int .i64 1))), none⟩, ⟨(some 11), (.mv (.t 10)), none⟩, ⟨(some 12), (.mv (.t 0)), (some (11, false))⟩, ⟨(some 13), (.len none true (.t 12)), (some (11, false))⟩, ⟨(some 14), (.bin .gtr (.t 13) (.c (.int .i64 100))), (some (11, false))⟩, ⟨(some 15), (.pick (.t 11) (.c (.bool true)) (.t 14)), none⟩]) (.cond (.t 15) (.seq (.reg none [⟨(some 2), (.mv (.c (.bool false))), none⟩]) .ret) .skip)) (.seq (.seq (.reg none [⟨(some 3), (.mv (.c (.int .i64 0))), none⟩]) (.block 0 (.loop b_rgkeyed_0))) t_rgkeyed_0)))
def r_rgkeyed : List ARes := [(.t 2)]
theorem s_rgkeyed : slimF Tryz.prog Tryz.f19 = some (c_rgkeyed, r_rgkeyed) := by kernel_rfl
def b_rgright_0 : ACode := (.seq (.seq (.reg none [⟨(some 30), (.mv (.t 3)), none⟩, ⟨(some 31), (.fa 20 (.t 1)), none⟩, ⟨(some 32), (.ld (.one (.str [])) (.t 31)), none⟩, ⟨(some 33), (.len none true (.t 32)), none⟩, ⟨(some 34), (.bin .lss (.t 30) (.t 33)), none⟩]) (.cond (.t 34) .skip (.exit 0))) (.seq (.block 1 (.seq (.reg none [⟨(some 37), (.fa 20 (.t 1)), none⟩, ⟨(some 38), (.ld (.one (.str [])) (.t 37)), none⟩, ⟨(some 39), (.mv (.t 3)), none⟩, ⟨(some 40), (.idxS (.t 38) (.t 39)), none⟩, ⟨(some 41), (.bin .eql (.t 40) (.c (.int .u8 10))), none⟩]) (.cond (.t 41) (.seq (.reg none [⟨(some 2), (.mv (.c (.bool false))), none⟩]) .ret) .skip))) (.reg none [⟨(some 35), (.mv (.t 3)), none⟩, ⟨(some 36), (.bin .add (.t 35) (.c (.int .i64 1))), none⟩, ⟨(some 3), (.mv (.t 36)), none⟩])))
def b_rgright_1 : ACode := (.seq (.seq (.reg none [⟨(some 42), (.mv (.t 4)), none⟩, ⟨(some 43), (.fa 23 (.t 1)), none⟩, ⟨(some 44), (.ld (.one (.con (.slice none 0 0))) (.t 43)), none⟩, ⟨(some 45), (.len none false (.t 44)), none⟩, ⟨(some 46), (.bin .lss (.t 42) (.t 45)), none⟩]) (.cond (.t 46) .skip (.exit 2))) (.seq (.block 3 (.seq (.reg (some [(0, false), (1, false), (2, false), (3, true), (4, true), (5, true), (6, true), (7, true), (8, true), (9, true), (10, true), (11, true), (12, false), (13, false), (14, false), (15, false), (16, false), (17, false), (18, false), (19, false), (20, false), (21, false), (22, false), (23, false), (24, false), (25, true), (26, true), (27, true)]) [⟨(some 49), (.fa 23 (.t 1)), none⟩, ⟨(some 50), (.ld (.one (.con (.slice none 0 0))) (.t 49)), none⟩, ⟨(some 51), (.mv (.t 4)), none⟩, ⟨(some 52), (.ia 2 (.agg [(1, (.str [])), (1, (.str []))]) (.t 50) (.t 51)), none⟩, ⟨(some 53), (.fa 0 (.t 52)), none⟩, ⟨(some 54), (.ld (.one (.str [])) (.t 53)), none⟩, ⟨(some 55), (.call 19 [(.t 54)]), none⟩, ⟨(some 56), (.un .not (.t 55)), none⟩, ⟨(some 57), (.mv (.t 56)), none⟩, ⟨(some 58), (.mv (.t 4)), (some (57, false))⟩, ⟨(some 59), (.bin .gtr (.t 58) (.c (.int .i64 0))), (some (57, false))⟩, ⟨(some 60), (.mv (.t 59)), (some (57, false))⟩, ⟨(some 61), (.fa 23 (.t 1)), (some (60, true))⟩, ⟨(some 62), (.ld (.one (.con (.slice none 0 0))) (.t 61)), (some (60, true))⟩, ⟨(some 63), (.mv (.t 4)), (some (60, true))⟩, ⟨(some 64), (.ia 2 (.agg [(1, (.str [])), (1, (.str []))]) (.t 62) (.t 63)), (some (60, true))⟩, ⟨(some 65), (.fa 0 (.t 64)), (some (60, true))⟩, ⟨(some 66), (.ld (.one (.str [])) (.t 65)), (some (60, true))⟩, ⟨(some 67), (.fa 23 (.t 1)), (some (60, true))⟩, ⟨(some 68), (.ld (.one (.con (.slice none 0 0))) (.t 67)), (some (60, true))⟩, ⟨(some 69), (.mv (.t 4)), (some (60, true))⟩, ⟨(some 70), (.bin .sub (.t 69) (.c (.int .i64 1))), (some (60, true))⟩, ⟨(some 71), (.ia 2 (.agg [(1, (.str [])), (1, (.str []))]) (.t 68) (.t 70)), (some (60, true))⟩, ⟨(some 72), (.fa 0 (.t 71)), (some (60, true))⟩, ⟨(some 73), (.ld (.one (.str [])) (.t 72)), (some (60, true))⟩, ⟨(some 74), (.bin .leq (.t 66) (.t 73)), (some (60, true))⟩, ⟨(some 75), (.pick (.t 60) (.t 74) (.c (.bool false))), (some (57, false))⟩, ⟨(some 76), (.pick (.t 57) (.c (.bool true)) (.t 75)), none⟩]) (.cond (.t 76) (.seq (.reg none [⟨(some 2), (.mv (.c (.bool false))), none⟩]) .ret) .skip))) (.reg none [⟨(some 47), (.mv (.t 4)), none⟩, ⟨(some 48), (.bin .add (.t 47) (.c (.int .i64 1))), none⟩, ⟨(some 4), (.mv (.t 48)), none⟩])))
def b_rgright_2 : ACode := (.seq (.seq (.reg none [⟨(some 77), (.mv (.t 5)), none⟩, ⟨(some 78), (.fa 24 (.t 1)), none⟩, ⟨(some 79), (.ld (.one (.con (.slice none 0 0))) (.t 78)), none⟩, ⟨(some 80), (.len none false (.t 79)), none⟩, ⟨(some 81), (.bin .lss (.t 77) (.t 80)), none⟩]) (.cond (.t 81) .skip (.exit 4))) (.seq (.block 5 (.seq (.reg (some [(0, false), (1, false), (2, false), (3, true), (4, true), (5, true), (6, true), (7, true), (8, true), (9, true), (10, true), (11, false), (12, false), (13, false), (14, false), (15, false), (16, false), (17, false), (18, false), (19, false), (20, false), (21, false), (22, true), (23, true), (24, true)]) [⟨(some 84), (.fa 24 (.t 1)), none⟩, ⟨(some 85), (.ld (.one (.con (.slice none 0 0))) (.t 84)), none⟩, ⟨(some 86), (.mv (.t 5)), none⟩, ⟨(some 87), (.ia 1 (.str []) (.t 85) (.t 86)), none⟩, ⟨(some 88), (.ld (.one (.str [])) (.t 87)), none⟩, ⟨(some 89), (.call 20 [(.t 88)]), none⟩, ⟨(some 90), (.un .not (.t 89)), none⟩, ⟨(some 91), (.mv (.t 90)), none⟩, ⟨(some 92), (.mv (.t 5)), (some (91, false))⟩, ⟨(some 93), (.bin .gtr (.t 92) (.c (.int .i64 0))), (some (91, false))⟩, ⟨(some 94), (.mv (.t 93)), (some (91, false))⟩, ⟨(some 95), (.fa 24 (.t 1)), (some (94, true))⟩, ⟨(some 96), (.ld (.one (.con (.slice none 0 0))) (.t 95)), (some (94, true))⟩, ⟨(some 97), (.mv (.t 5)), (some (94, true))⟩, ⟨(some 98), (.ia 1 (.str []) (.t 96) (.t 97)), (some (94, true))⟩, ⟨(some 99), (.ld (.one (.str [])) (.t 98)), (some (94, true))⟩, ⟨(some 100), (.fa 24 (.t 1)), (some (94, true))⟩, ⟨(some 101), (.ld (.one (.con (.slice none 0 0))) (.t 100)), (some (94, true))⟩, ⟨(some 102), (.mv (.t 5)), (some (94, true))⟩, ⟨(some 103), (.bin .sub (.t 102) (.c (.int .i64 1))), (some (94, true))⟩, ⟨(some 104), (.ia 1 (.str []) (.t 101) (.t 103)), (some (94, true))⟩, ⟨(some 105), (.ld (.one (.str [])) (.t 104)), (some (94, true))⟩, ⟨(some 106), (.bin .leq (.t 99) (.t 105)), (some (94, true))⟩, ⟨(some 107), (.pick (.t 94) (.t 106) (.c (.bool false))), (some (91, false))⟩, ⟨(some 108), (.pick (.t 91) (.c (.bool true)) (.t 107)), none⟩]) (.cond (.t 108) (.seq (.reg none [⟨(some 2), (.mv (.c (.bool false))), none⟩]) .ret) .skip))) (.reg none [⟨(some 82), (.mv (.t 5)), none⟩, ⟨(some 83), (.bin .add (.t 82) (.c (.int .i64 1))), none⟩, ⟨(some 5), (.mv (.t 83)), none⟩])))
def t_rgright_0 : ACode := (.seq (.reg none [⟨(some 2), (.mv (.c (.bool true))), none⟩]) .ret)
def t_rgright_1 : ACode := (.seq (.seq (.reg none [⟨(some 5), (.mv (.c (.int .i64 0))), none⟩]) (.block 4 (.loop b_rgright_2))) t_rgright_0)
def t_rgright_2 : ACode := (.seq (.seq (.reg none [⟨(some 4), (.mv (.c (.int .i64 0))), none⟩]) (.block 2 (.loop b_rgright_1))) t_rgright_1)
def c_rgright : ACode := (.seq (.reg none [⟨(some 1), (.box 26 26 (.t 0)), none⟩, ⟨(some 2), (.mv (.c (.bool false))), none⟩]) (.seq (.seq (.reg none [⟨(some 6), (.fa 20 (.t 1)), none⟩, ⟨(some 7), (.ld (.one (.str [])) (.t 6)), none⟩, ⟨(some 8), (.len none true (.t 7)), none⟩, ⟨(some 9), (.bin .eql (.t 8) (.c (.int .i64 0))), none⟩, ⟨(some 10), (.mv (.t 9)), none⟩, ⟨(some 11), (.fa 21 (.t 1)), (some (10, false))⟩, ⟨(some 12), (.ld (.one (.int .i64 0)) (.t 11)), (some (10, false))⟩, ⟨(some 13), (.bin .lss (.t 12) (.c (.int .i64 0))), (some (10, false))⟩, ⟨(some 14), (.pick (.t 10) (.c (.bool true)) (.t 13)), none⟩, ⟨(some 15), (.mv (.t 14)), none⟩, ⟨(some 16), (.fa 21 (.t 1)), (some (15, false))⟩, ⟨(some 17), (.ld (.one (.int .i64 0)) (.t 16)), (some (15, false))⟩, ⟨(some 18), (.bin .geq (.t 17) (.c (.int .i64 4611686018427387904))), (some (15, false))⟩, ⟨(some 19), (.pick (.t 15) (.c (.bool true)) (.t 18)), none⟩, ⟨(some 20), (.mv (.t 19)), none⟩, ⟨(some 21), (.fa 22 (.t 1)), (some (20, false))⟩, ⟨(some 22), (.ld (.one (.int .i64 0)) (.t 21)), (some (20, false))⟩, ⟨(some 23), (.bin .lss (.t 22) (.c (.int .i64 (-86399)))), (some (20, false))⟩, ⟨(some 24), (.pick (.t 20) (.c (.bool true)) (.t 23)), none⟩, ⟨(some 25), (.mv (.t 24)), none⟩, ⟨(some 26), (.fa 22 (.t 1)), (some (25, false))⟩, ⟨(some 27), (.ld (.one (.int .i64 0)) (.t 26)), (some (25, false))⟩, ⟨(some 28), (.bin .gtr (.t 27) (.c (.int .i64 86399))), (some (25, false))⟩, ⟨(some 29), (.pick (.t 25) (.c (.bool true)) (.t 28)), none⟩]) (.cond (.t 29) (.seq (.reg none [⟨(some 2), (.mv (.c (.bool false))), none⟩]) .ret) .skip)) (.seq (.seq (.reg none [⟨(some 3), (.mv (.c (.int .i64 0))), none⟩]) (.block 0 (.loop b_rgright_0))) t_rgright_2)))
def r_rgright : List ARes := [(.t 2)]
theorem s_rgright : slimF Tryz.prog Tryz.f8 = some (c_rgright, r_rgright) := by kernel_rfl
def b_rgvalue_0 : ACode := (.seq (.seq (.reg none [⟨(some 5), (.mv (.t 4)), none⟩, ⟨(some 6), (.mv (.t 0)), none⟩, ⟨(some 7), (.len none true (.t 6)), none⟩, ⟨(some 8), (.bin .lss (.t 5) (.t 7)), none⟩]) (.cond (.t 8) .skip (.exit 0))) (.seq (.block 1 (.seq (.reg none [⟨(some 11), (.mv (.t 0)), none⟩, ⟨(some 12), (.mv (.t 4)), none⟩, ⟨(some 13), (.idxS (.t 11) (.t 12)), none⟩]) (.block 2 (.seq (.reg none [⟨(some 21), (.bin .eql (.t 13) (.c (.int .u8 92))), none⟩, ⟨(some 20), (.mv (.t 21)), none⟩]) (.cond (.t 20) (.reg none [⟨(some 22), (.mv (.t 3)), none⟩, ⟨(some 23), (.buildSl 5 1 [(.c (.int .u8 92)), (.c (.int .u8 92))]), none⟩, ⟨(some 24), (.app 5 1 1 (.t 22) (.t 23)), none⟩, ⟨(some 3), (.mv (.t 24)), none⟩]) (.seq (.reg none [⟨(some 26), (.bin .eql (.t 13) (.c (.int .u8 10))), none⟩, ⟨(some 25), (.mv (.t 26)), none⟩]) (.cond (.t 25) (.reg none [⟨(some 27), (.mv (.t 3)), none⟩, ⟨(some 28), (.buildSl 5 1 [(.c (.int .u8 92)), (.c (.int .u8 110))]), none⟩, ⟨(some 29), (.app 5 1 1 (.t 27) (.t 28)), none⟩, ⟨(some 3), (.mv (.t 29)), none⟩]) (.seq (.reg none [⟨(some 31), (.bin .eql (.t 13) (.c (.int .u8 13))), none⟩, ⟨(some 30), (.mv (.t 31)), none⟩]) (.cond (.t 30) (.reg none [⟨(some 32), (.mv (.t 3)), none⟩, ⟨(some 33), (.buildSl 5 1 [(.c (.int .u8 92)), (.c (.int .u8 114))]), none⟩, ⟨(some 34), (.app 5 1 1 (.t 32) (.t 33)), none⟩, ⟨(some 3), (.mv (.t 34)), none⟩]) (.seq (.reg none [⟨(some 36), (.bin .eql (.t 13) (.c (.int .u8 0))), none⟩, ⟨(some 35), (.mv (.t 36)), none⟩]) (.cond (.t 35) (.reg none [⟨(some 37), (.mv (.t 3)), none⟩, ⟨(some 38), (.buildSl 5 1 [(.c (.int .u8 92)), (.c (.int .u8 48))]), none⟩, ⟨(some 39), (.app 5 1 1 (.t 37) (.t 38)), none⟩, ⟨(some 3), (.mv (.t 39)), none⟩]) (.reg none [⟨(some 14), (.mv (.t 3)), none⟩, ⟨(some 15), (.mv (.t 0)), none⟩, ⟨(some 16), (.mv (.t 4)), none⟩, ⟨(some 17), (.idxS (.t 15) (.t 16)), none⟩, ⟨(some 18), (.buildSl 5 1 [(.t 17)]), none⟩, ⟨(some 19), (.app 5 1 1 (.t 14) (.t 18)), none⟩, ⟨(some 3), (.mv (.t 19)), none⟩])))))))))))) (.reg none [⟨(some 9), (.mv (.t 4)), none⟩, ⟨(some 10), (.bin .add (.t 9) (.c (.int .i64 1))), none⟩, ⟨(some 4), (.mv (.t 10)), none⟩])))
def t_rgvalue_0 : ACode := (.seq (.reg none [⟨(some 40), (.mv (.t 3)), none⟩, ⟨(some 41), (.toStr (.t 40)), none⟩, ⟨(some 2), (.mv (.t 41)), none⟩]) .ret)
def c_rgvalue : ACode := (.seq (.reg none [⟨(some 2), (.mv (.c (.str []))), none⟩]) (.seq (.reg none [⟨(some 3), (.mv (.c (.con (.slice none 0 0)))), none⟩]) (.seq (.seq (.reg none [⟨(some 4), (.mv (.c (.int .i64 0))), none⟩]) (.block 0 (.loop b_rgvalue_0))) t_rgvalue_0)))
def r_rgvalue : List ARes := [(.t 2)]
theorem s_rgvalue : slimF Tryz.prog Tryz.f23 = some (c_rgvalue, r_rgvalue) := by kernel_rfl
def b_rgprn_0 : ACode := (.seq (.seq (.reg none [⟨(some 23), (.mv (.t 4)), none⟩, ⟨(some 24), (.fa 23 (.t 1)), none⟩, ⟨(some 25), (.ld (.one (.con (.slice none 0 0))) (.t 24)), none⟩, ⟨(some 26), (.len none false (.t 25)), none⟩, ⟨(some 27), (.bin .lss (.t 23) (.t 26)), none⟩]) (.cond (.t 27) .skip (.exit 0))) (.seq (.block 1 (.seq (.seq (.reg none [⟨(some 30), (.mv (.t 4)), none⟩, ⟨(some 31), (.bin .eql (.t 30) (.c (.int .i64 0))), none⟩]) (.cond (.t 31) (.reg none [⟨(some 32), (.mv (.t 3)), none⟩, ⟨(some 33), (.bin .add (.t 32) (.c (.str [32]))), none⟩, ⟨(some 3), (.mv (.t 33)), none⟩]) (.reg none [⟨(some 34), (.mv (.t 3)), none⟩, ⟨(some 35), (.bin .add (.t 34) (.c (.str [0]))), none⟩, ⟨(some 3), (.mv (.t 35)), none⟩]))) (.reg (some [(0, false), (1, false), (2, false), (3, false), (4, false), (5, false), (6, false), (7, false), (8, false), (9, false), (10, false), (11, false), (12, false), (13, false), (14, false), (15, false), (16, true), (17, true)]) [⟨(some 36), (.mv (.t 3)), none⟩, ⟨(some 37), (.fa 23 (.t 1)), none⟩, ⟨(some 38), (.ld (.one (.con (.slice none 0 0))) (.t 37)), none⟩, ⟨(some 39), (.mv (.t 4)), none⟩, ⟨(some 40), (.ia 2 (.agg [(1, (.str [])), (1, (.str []))]) (.t 38) (.t 39)), none⟩, ⟨(some 41), (.fa 0 (.t 40)), none⟩, ⟨(some 42), (.ld (.one (.str [])) (.t 41)), none⟩, ⟨(some 43), (.bin .add (.t 36) (.t 42)), none⟩, ⟨(some 44), (.bin .add (.t 43) (.c (.str [58]))), none⟩, ⟨(some 45), (.fa 23 (.t 1)), none⟩, ⟨(some 46), (.ld (.one (.con (.slice none 0 0))) (.t 45)), none⟩, ⟨(some 47), (.mv (.t 4)), none⟩, ⟨(some 48), (.ia 2 (.agg [(1, (.str [])), (1, (.str []))]) (.t 46) (.t 47)), none⟩, ⟨(some 49), (.fa 1 (.t 48)), none⟩, ⟨(some 50), (.ld (.one (.str [])) (.t 49)), none⟩, ⟨(some 51), (.call 23 [(.t 50)]), none⟩, ⟨(some 52), (.bin .add (.t 44) (.t 51)), none⟩, ⟨(some 3), (.mv (.t 52)), none⟩]))) (.reg none [⟨(some 28), (.mv (.t 4)), none⟩, ⟨(some 29), (.bin .add (.t 28) (.c (.int .i64 1))), none⟩, ⟨(some 4), (.mv (.t 29)), none⟩])))
def b_rgprn_1 : ACode := (.seq (.seq (.reg none [⟨(some 55), (.mv (.t 5)), none⟩, ⟨(some 56), (.fa 24 (.t 1)), none⟩, ⟨(some 57), (.ld (.one (.con (.slice none 0 0))) (.t 56)), none⟩, ⟨(some 58), (.len none false (.t 57)), none⟩, ⟨(some 59), (.bin .lss (.t 55) (.t 58)), none⟩]) (.cond (.t 59) .skip (.exit 2))) (.seq (.block 3 (.reg none [⟨(some 62), (.mv (.t 3)), none⟩, ⟨(some 63), (.fa 24 (.t 1)), none⟩, ⟨(some 64), (.ld (.one (.con (.slice none 0 0))) (.t 63)), none⟩, ⟨(some 65), (.mv (.t 5)), none⟩, ⟨(some 66), (.ia 1 (.str []) (.t 64) (.t 65)), none⟩, ⟨(some 67), (.ld (.one (.str [])) (.t 66)), none⟩, ⟨(some 68), (.bin .add (.t 62) (.t 67)), none⟩, ⟨(some 69), (.bin .add (.t 68) (.c (.str [10]))), none⟩, ⟨(some 3), (.mv (.t 69)), none⟩])) (.reg none [⟨(some 60), (.mv (.t 5)), none⟩, ⟨(some 61), (.bin .add (.t 60) (.c (.int .i64 1))), none⟩, ⟨(some 5), (.mv (.t 61)), none⟩])))
def t_rgprn_0 : ACode := (.seq (.reg none [⟨(some 70), (.mv (.t 3)), none⟩, ⟨(some 71), (.bin .add (.t 70) (.c (.str [10]))), none⟩, ⟨(some 72), (.fa 25 (.t 1)), none⟩, ⟨(some 73), (.ld (.one (.str [])) (.t 72)), none⟩, ⟨(some 74), (.bin .add (.t 71) (.t 73)), none⟩, ⟨(some 2), (.mv (.t 74)), none⟩]) .ret)
def t_rgprn_1 : ACode := (.seq (.reg none [⟨(some 53), (.mv (.t 3)), none⟩, ⟨(some 54), (.bin .add (.t 53) (.c (.str [10]))), none⟩, ⟨(some 3), (.mv (.t 54)), none⟩]) (.seq (.seq (.reg none [⟨(some 5), (.mv (.c (.int .i64 0))), none⟩]) (.block 2 (.loop b_rgprn_1))) t_rgprn_0))
def c_rgprn : ACode := (.seq (.reg none [⟨(some 1), (.box 26 26 (.t 0)), none⟩, ⟨(some 2), (.mv (.c (.str []))), none⟩]) (.seq (.reg (some [(0, false), (1, false), (2, false), (3, false), (2, false), (2, false), (6, false), (7, false), (2, false), (2, false), (10, false), (11, false), (12, false), (2, false), (2, false), (15, false), (16, true), (17, true)]) [⟨(some 6), (.fa 0 (.t 1)), none⟩, ⟨(some 7), (.ld (.arr 20) (.t 6)), none⟩, ⟨(some 8), (.call 21 [(.t 7)]), none⟩, ⟨(some 9), (.bin .add (.t 8) (.c (.str [10]))), none⟩, ⟨(some 10), (.fa 20 (.t 1)), none⟩, ⟨(some 11), (.ld (.one (.str [])) (.t 10)), none⟩, ⟨(some 12), (.bin .add (.t 9) (.t 11)), none⟩, ⟨(some 13), (.bin .add (.t 12) (.c (.str [10]))), none⟩, ⟨(some 14), (.fa 21 (.t 1)), none⟩, ⟨(some 15), (.ld (.one (.int .i64 0)) (.t 14)), none⟩, ⟨(some 16), (.call 22 [(.t 15)]), none⟩, ⟨(some 17), (.bin .add (.t 13) (.t 16)), none⟩, ⟨(some 18), (.bin .add (.t 17) (.c (.str [32]))), none⟩, ⟨(some 19), (.fa 22 (.t 1)), none⟩, ⟨(some 20), (.ld (.one (.int .i64 0)) (.t 19)), none⟩, ⟨(some 21), (.call 22 [(.t 20)]), none⟩, ⟨(some 22), (.bin .add (.t 18) (.t 21)), none⟩, ⟨(some 3), (.mv (.t 22)), none⟩]) (.seq (.seq (.reg none [⟨(some 4), (.mv (.c (.int .i64 0))), none⟩]) (.block 0 (.loop b_rgprn_0))) t_rgprn_1)))
def r_rgprn : List ARes := [(.t 2)]
theorem s_rgprn : slimF Tryz.prog Tryz.f10 = some (c_rgprn, r_rgprn) := by kernel_rfl
def b_rgsame_0 : ACode := (.seq (.seq (.reg none [⟨(some 58), (.mv (.t 5)), none⟩, ⟨(some 59), (.fa 23 (.t 2)), none⟩, ⟨(some 60), (.ld (.one (.con (.slice none 0 0))) (.t 59)), none⟩, ⟨(some 61), (.len none false (.t 60)), none⟩, ⟨(some 62), (.bin .lss (.t 58) (.t 61)), none⟩]) (.cond (.t 62) .skip (.exit 0))) (.seq (.block 1 (.seq (.reg (some [(0, false), (1, false), (2, false), (3, false), (4, false), (5, false), (6, false), (7, false), (8, false), (9, false), (10, true)]) [⟨(some 65), (.fa 23 (.t 2)), none⟩, ⟨(some 66), (.ld (.one (.con (.slice none 0 0))) (.t 65)), none⟩, ⟨(some 67), (.mv (.t 5)), none⟩, ⟨(some 68), (.ia 2 (.agg [(1, (.str [])), (1, (.str []))]) (.t 66) (.t 67)), none⟩, ⟨(some 69), (.ld (.st 2) (.t 68)), none⟩, ⟨(some 70), (.fa 23 (.t 3)), none⟩, ⟨(some 71), (.ld (.one (.con (.slice none 0 0))) (.t 70)), none⟩, ⟨(some 72), (.mv (.t 5)), none⟩, ⟨(some 73), (.ia 2 (.agg [(1, (.str [])), (1, (.str []))]) (.t 71) (.t 72)), none⟩, ⟨(some 74), (.ld (.st 2) (.t 73)), none⟩, ⟨(some 75), (.eqS true [(0, ((.one (.str [])), 0)), (1, ((.one (.str [])), 0))] (.t 69) (.t 74)), none⟩]) (.cond (.t 75) (.seq (.reg none [⟨(some 4), (.mv (.c (.bool false))), none⟩]) .ret) .skip))) (.reg none [⟨(some 63), (.mv (.t 5)), none⟩, ⟨(some 64), (.bin .add (.t 63) (.c (.int .i64 1))), none⟩, ⟨(some 5), (.mv (.t 64)), none⟩])))
def b_rgsame_1 : ACode := (.seq (.seq (.reg none [⟨(some 76), (.mv (.t 6)), none⟩, ⟨(some 77), (.fa 24 (.t 2)), none⟩, ⟨(some 78), (.ld (.one (.con (.slice none 0 0))) (.t 77)), none⟩, ⟨(some 79), (.len none false (.t 78)), none⟩, ⟨(some 80), (.bin .lss (.t 76) (.t 79)), none⟩]) (.cond (.t 80) .skip (.exit 2))) (.seq (.block 3 (.seq (.reg (some [(0, false), (1, false), (2, false), (3, false), (4, false), (5, false), (6, false), (7, false), (8, false), (9, false), (10, true)]) [⟨(some 83), (.fa 24 (.t 2)), none⟩, ⟨(some 84), (.ld (.one (.con (.slice none 0 0))) (.t 83)), none⟩, ⟨(some 85), (.mv (.t 6)), none⟩, ⟨(some 86), (.ia 1 (.str []) (.t 84) (.t 85)), none⟩, ⟨(some 87), (.ld (.one (.str [])) (.t 86)), none⟩, ⟨(some 88), (.fa 24 (.t 3)), none⟩, ⟨(some 89), (.ld (.one (.con (.slice none 0 0))) (.t 88)), none⟩, ⟨(some 90), (.mv (.t 6)), none⟩, ⟨(some 91), (.ia 1 (.str []) (.t 89) (.t 90)), none⟩, ⟨(some 92), (.ld (.one (.str [])) (.t 91)), none⟩, ⟨(some 93), (.bin .neq (.t 87) (.t 92)), none⟩]) (.cond (.t 93) (.seq (.reg none [⟨(some 4), (.mv (.c (.bool false))), none⟩]) .ret) .skip))) (.reg none [⟨(some 81), (.mv (.t 6)), none⟩, ⟨(some 82), (.bin .add (.t 81) (.c (.int .i64 1))), none⟩, ⟨(some 6), (.mv (.t 82)), none⟩])))
def t_rgsame_0 : ACode := (.seq (.reg none [⟨(some 4), (.mv (.c (.bool true))), none⟩]) .ret)
def t_rgsame_1 : ACode := (.seq (.seq (.reg none [⟨(some 6), (.mv (.c (.int .i64 0))), none⟩]) (.block 2 (.loop b_rgsame_1))) t_rgsame_0)
def c_rgsame : ACode := (.seq (.reg none [⟨(some 2), (.box 26 26 (.t 0)), none⟩, ⟨(some 3), (.box 26 26 (.t 1)), none⟩, ⟨(some 4), (.mv (.c (.bool false))), none⟩]) (.seq (.seq (.reg none [⟨(some 7), (.fa 0 (.t 2)), none⟩, ⟨(some 8), (.ld (.arr 20) (.t 7)), none⟩, ⟨(some 9), (.fa 0 (.t 3)), none⟩, ⟨(some 10), (.ld (.arr 20) (.t 9)), none⟩, ⟨(some 11), (.eqA true 20 (.t 8) (.t 10)), none⟩, ⟨(some 12), (.mv (.t 11)), none⟩, ⟨(some 13), (.fa 20 (.t 2)), (some (12, false))⟩, ⟨(some 14), (.ld (.one (.str [])) (.t 13)), (some (12, false))⟩, ⟨(some 15), (.fa 20 (.t 3)), (some (12, false))⟩, ⟨(some 16), (.ld (.one (.str [])) (.t 15)), (some (12, false))⟩, ⟨(some 17), (.bin .neq (.t 14) (.t 16)), (some (12, false))⟩, ⟨(some 18), (.pick (.t 12) (.c (.bool true)) (.t 17)), none⟩, ⟨(some 19), (.mv (.t 18)), none⟩, ⟨(some 20), (.fa 21 (.t 2)), (some (19, false))⟩, ⟨(some 21), (.ld (.one (.int .i64 0)) (.t 20)), (some (19, false))⟩, ⟨(some 22), (.fa 21 (.t 3)), (some (19, false))⟩, ⟨(some 23), (.ld (.one (.int .i64 0)) (.t 22)), (some (19, false))⟩, ⟨(some 24), (.bin .neq (.t 21) (.t 23)), (some (19, false))⟩, ⟨(some 25), (.pick (.t 19) (.c (.bool true)) (.t 24)), none⟩, ⟨(some 26), (.mv (.t 25)), none⟩, ⟨(some 27), (.fa 22 (.t 2)), (some (26, false))⟩, ⟨(some 28), (.ld (.one (.int .i64 0)) (.t 27)), (some (26, false))⟩, ⟨(some 29), (.fa 22 (.t 3)), (some (26, false))⟩, ⟨(some 30), (.ld (.one (.int .i64 0)) (.t 29)), (some (26, false))⟩, ⟨(some 31), (.bin .neq (.t 28) (.t 30)), (some (26, false))⟩, ⟨(some 32), (.pick (.t 26) (.c (.bool true)) (.t 31)), none⟩, ⟨(some 33), (.mv (.t 32)), none⟩, ⟨(some 34), (.fa 25 (.t 2)), (some (33, false))⟩, ⟨(some 35), (.ld (.one (.str [])) (.t 34)), (some (33, false))⟩, ⟨(some 36), (.fa 25 (.t 3)), (some (33, false))⟩, ⟨(some 37), (.ld (.one (.str [])) (.t 36)), (some (33, false))⟩, ⟨(some 38), (.bin .neq (.t 35) (.t 37)), (some (33, false))⟩, ⟨(some 39), (.pick (.t 33) (.c (.bool true)) (.t 38)), none⟩, ⟨(some 40), (.mv (.t 39)), none⟩, ⟨(some 41), (.fa 23 (.t 2)), (some (40, false))⟩, ⟨(some 42), (.ld (.one (.con (.slice none 0 0))) (.t 41)), (some (40, false))⟩, ⟨(some 43), (.len none false (.t 42)), (some (40, false))⟩, ⟨(some 44), (.fa 23 (.t 3)), (some (40, false))⟩, ⟨(some 45), (.ld (.one (.con (.slice none 0 0))) (.t 44)), (some (40, false))⟩, ⟨(some 46), (.len none false (.t 45)), (some (40, false))⟩, ⟨(some 47), (.bin .neq (.t 43) (.t 46)), (some (40, false))⟩, ⟨(some 48), (.pick (.t 40) (.c (.bool true)) (.t 47)), none⟩, ⟨(some 49), (.mv (.t 48)), none⟩, ⟨(some 50), (.fa 24 (.t 2)), (some (49, false))⟩, ⟨(some 51), (.ld (.one (.con (.slice none 0 0))) (.t 50)), (some (49, false))⟩, ⟨(some 52), (.len none false (.t 51)), (some (49, false))⟩, ⟨(some 53), (.fa 24 (.t 3)), (some (49, false))⟩, ⟨(some 54), (.ld (.one (.con (.slice none 0 0))) (.t 53)), (some (49, false))⟩, ⟨(some 55), (.len none false (.t 54)), (some (49, false))⟩, ⟨(some 56), (.bin .neq (.t 52) (.t 55)), (some (49, false))⟩, ⟨(some 57), (.pick (.t 49) (.c (.bool true)) (.t 56)), none⟩]) (.cond (.t 57) (.seq (.reg none [⟨(some 4), (.mv (.c (.bool false))), none⟩]) .ret) .skip)) (.seq (.seq (.reg none [⟨(some 5), (.mv (.c (.int .i64 0))), none⟩]) (.block 0 (.loop b_rgsame_0))) t_rgsame_1)))
def r_rgsame : List ARes := [(.t 4)]
theorem s_rgsame : slimF Tryz.prog Tryz.f11 = some (c_rgsame, r_rgsame) := by kernel_rfl
end Go.Proofs.YtfabdnpeohpgnaaGreatDoor
namespace Go.Proofs.YtfabdnpeohpgnaaGreatDoor
set_option linter.all false
open Go.RowKit
open Go.Lib (index hasPrefix cut indexAny itoa)
theorem takeS_mem {l : List UInt8} {i : Nat} {x : UInt8} (hi : i < l.length) : x ∈ l.take (i + 1) ↔ x ∈ l.take i ∨ x = l[i] := by
  rw [List.take_add_one, List.getElem?_eq_getElem hi, Option.toList_some, List.mem_append, List.mem_singleton]
def rgkeyedS : Spec := fun xs hp => match xs, hp with
  | [.str s], [] => some ⟨.bool (keyedB s), [], s.length ≤ 1000000000000⟩
  | _, _ => none
set_option maxHeartbeats 2000000 in
theorem rgkeyed_ok : FnOk Tryz.prog 19 rgkeyedS := by
  refine fn_slim2 Tryz.func19 s_rgkeyed (Φ := phiL []) phi_nil ?_
  intro xs hp r hs hp'
  unfold rgkeyedS at hs
  split at hs
  · injection hs with hs; subst hs
    rename_i s
    have p1 : s.length ≤ 1000000000000 := hp'
    refine ⟨len_le (by kernel_rfl), ?_⟩
    by_cases g1 : s.length < 1
    · have d1 : decide ((s.length : Int) < 1) = true := decide_eq_true (by omega)
      have e : s = [] := List.length_eq_zero_iff.1 (by omega)
      have e2 : keyedB s = false := by rw [e]; rfl
      simp only [c_rgkeyed, r_rgkeyed, d1, e2, go_sem, Nat.reduceDiv, Nat.reduceMod, ↓reduceIte, Nat.reduceEqDiff, Nat.reduceBEq, Nat.reduceSub, Nat.reduceLT, Nat.reduceAdd, Nat.reduceLeDiff, reduceCtorEq, Int.reduceEq, Int.reduceNe, Int.reduceLT, Int.reduceLE, Int.reduceToNat]
    have d1 : decide ((s.length : Int) < 1) = false := decide_eq_false (by omega)
    by_cases g2 : 100 < s.length
    · have d2 : decide (100 < (s.length : Int)) = true := decide_eq_true (by omega)
      have e2 : keyedB s = false := by unfold keyedB; rw [decide_eq_false (by omega : ¬ s.length ≤ 100)]; simp
      simp only [c_rgkeyed, r_rgkeyed, d1, d2, e2, go_sem, Nat.reduceDiv, Nat.reduceMod, ↓reduceIte, Nat.reduceEqDiff, Nat.reduceBEq, Nat.reduceSub, Nat.reduceLT, Nat.reduceAdd, Nat.reduceLeDiff, reduceCtorEq, Int.reduceEq, Int.reduceNe, Int.reduceLT, Int.reduceLE, Int.reduceToNat]
    have d2 : decide (100 < (s.length : Int)) = false := decide_eq_false (by omega)
    simp only [c_rgkeyed, d1, d2, go_sem, Nat.reduceDiv, Nat.reduceMod, ↓reduceIte, Nat.reduceEqDiff, Nat.reduceBEq, Nat.reduceSub, Nat.reduceLT, Nat.reduceAdd, Nat.reduceLeDiff, reduceCtorEq, Int.reduceEq, Int.reduceNe, Int.reduceLT, Int.reduceLE, Int.reduceToNat]
    refine loop2P [] [0, 3] [] (fun i : Nat => ⟨[(0, .str s), (3, .int .i64 (i : Int))], []⟩)
      (fun i => i ≤ s.length ∧ (s.take i).all keyC = true) (fun i => s.length - i) 0 (by rfl) ⟨Nat.zero_le _, by simp⟩ ⟨rfl, by rfl⟩ (fun i hi R hR => ?_)
    obtain ⟨i1, i2⟩ := hi
    by_cases hil : i < s.length
    · have c1 : decide ((i : Int) < (s.length : Int)) = true := decide_eq_true (by omega)
      have hat := at8_nat hil
      have hk := keyC_int s[i]
      have hlt := s[i].toNat_lt
      have hnext : keyC s[i] = true → (s.take (i + 1)).all keyC = true := fun h => by
        rw [List.take_add_one, List.getElem?_eq_getElem hil, Option.toList_some, List.all_append, i2]; simp [h]
      have hbad : keyC s[i] = false → keyedB s = false := fun h => by
        unfold keyedB
        rw [show s.all keyC = false from List.all_eq_false.2 ⟨s[i], List.getElem_mem _, by rw [h]; simp⟩, Bool.and_false]
      generalize hn : (s[i].toNat : Int) = n at *
      have hn0 : 0 ≤ n := by omega
      have hc : n = 45 ∨ n = 95 ∨ (97 ≤ n ∧ n ≤ 122) ∨ (65 ≤ n ∧ n ≤ 90) ∨ (48 ≤ n ∧ n ≤ 57) ∨ n < 45 ∨ (45 < n ∧ n < 48) ∨ (57 < n ∧ n < 65) ∨ (90 < n ∧ n < 95) ∨ n = 96 ∨ 122 < n := by omega
      rcases hc with h | h | h | h | h | h | h | h | h | h | h
      all_goals (
        first | have f1 : decide (97 ≤ n) = true := decide_eq_true (by omega) | have f1 : decide (97 ≤ n) = false := decide_eq_false (by omega)
        first | have f2 : decide (n ≤ 122) = true := decide_eq_true (by omega) | have f2 : decide (n ≤ 122) = false := decide_eq_false (by omega)
        first | have f3 : decide (65 ≤ n) = true := decide_eq_true (by omega) | have f3 : decide (65 ≤ n) = false := decide_eq_false (by omega)
        first | have f4 : decide (n ≤ 90) = true := decide_eq_true (by omega) | have f4 : decide (n ≤ 90) = false := decide_eq_false (by omega)
        first | have f5 : decide (48 ≤ n) = true := decide_eq_true (by omega) | have f5 : decide (48 ≤ n) = false := decide_eq_false (by omega)
        first | have f6 : decide (n ≤ 57) = true := decide_eq_true (by omega) | have f6 : decide (n ≤ 57) = false := decide_eq_false (by omega)
        first | have f7 : decide (n = 45) = true := decide_eq_true (by omega) | have f7 : decide (n = 45) = false := decide_eq_false (by omega)
        first | have f8 : decide (n = 95) = true := decide_eq_true (by omega) | have f8 : decide (n = 95) = false := decide_eq_false (by omega)
        rw [f1, f2, f3, f4, f5, f6, f7, f8] at hk
        simp only [Bool.and_true, Bool.and_false, Bool.or_true, Bool.or_false, Bool.true_or, Bool.false_or] at hk
        clear h
        simp only [b_rgkeyed_0, r_rgkeyed, c1, hat, f1, f2, f3, f4, f5, f6, f7, f8, Int.toNat_natCast, go_sem, Nat.reduceDiv, Nat.reduceMod, ↓reduceIte, Nat.reduceEqDiff, Nat.reduceBEq, Nat.reduceSub, Nat.reduceLT, Nat.reduceAdd, Nat.reduceLeDiff, reduceCtorEq, Int.reduceEq, Int.reduceNe, Int.reduceLT, Int.reduceLE, Int.reduceToNat])
      all_goals first | exact ⟨⟨by omega, by omega⟩, ⟨by omega, by omega⟩, hR _ (i + 1) ⟨hil, hnext hk⟩ (by omega) rfl⟩ | exact ⟨⟨by omega, by omega⟩, by rw [hbad hk]⟩
    · have c1 : decide ((i : Int) < (s.length : Int)) = false := decide_eq_false (by omega)
      rw [List.take_of_length_le (by omega)] at i2
      have hkb : keyedB s = true := by
        unfold keyedB; rw [i2, Bool.and_true, decide_eq_true (by omega : s.length ≤ 100), Bool.and_true]
        exact decide_eq_true (fun e => by rw [e] at g1; exact g1 (by decide))
      rw [hkb]
      simp only [b_rgkeyed_0, t_rgkeyed_0, r_rgkeyed, c1, go_sem, Nat.reduceDiv, Nat.reduceMod, ↓reduceIte, Nat.reduceEqDiff, Nat.reduceBEq, Nat.reduceSub, Nat.reduceLT, Nat.reduceAdd, Nat.reduceLeDiff, reduceCtorEq, Int.reduceEq, Int.reduceNe, Int.reduceLT, Int.reduceLE, Int.reduceToNat]
  · cases hs
def rgvalueS : Spec := fun xs hp => match xs, hp with
  | [.str s], [] => some ⟨.str (tolL s), [], s.length ≤ 100000000⟩
  | _, _ => none
theorem Bs_two92 (l : List UInt8) (u : UInt8) : Bs l ++ [.int .u8 92, .int .u8 ((u.toNat : Nat) : Int)] = Bs (l ++ [92, u]) := by unfold Bs; rw [List.map_append]; rfl
set_option maxHeartbeats 2000000 in
theorem rgvalue_ok : FnOk Tryz.prog 23 rgvalueS := by
  refine fn_slim2 Tryz.func23 s_rgvalue (Φ := phiL []) phi_nil ?_
  intro xs hp r hs hp'
  unfold rgvalueS at hs
  split at hs
  · injection hs with hs; subst hs
    rename_i s
    have p1 : s.length ≤ 100000000 := hp'
    refine ⟨len_le (by kernel_rfl), ?_⟩
    simp only [c_rgvalue, go_sem, Nat.reduceDiv, Nat.reduceMod, ↓reduceIte, Nat.reduceEqDiff, Nat.reduceBEq, Nat.reduceSub, Nat.reduceLT, Nat.reduceAdd, Nat.reduceLeDiff, reduceCtorEq, Int.reduceEq, Int.reduceNe, Int.reduceLT, Int.reduceLE, Int.reduceToNat]
    refine loop2P [(3, 5, 1)] [0, 3, 4] [0] (fun i : Nat => ⟨[(0, .str s), (3, .own 0 i), (4, .int .i64 (i : Int))], [.row 5 1 i (Bs (tolL (s.take i)))]⟩)
      (fun i => i ≤ s.length) (fun i => s.length - i) 0 (by rfl) (Nat.zero_le _) ⟨rfl, by rfl⟩ (fun i hi R hR => ?_)
    by_cases hil : i < s.length
    · have c1 : decide ((i : Int) < (s.length : Int)) = true := decide_eq_true (by omega)
      have hat := at8_nat hil
      have htk := tol_take s hil
      have htl := tol_take_len s i
      have htl2 := tol_take_len s (i + 1)
      generalize hc : s[i] = c at *
      have g1 : decide (((c.toNat : Nat) : Int) = 92) = decide (c = 92) := u8_eq c 92
      have g2 : decide (((c.toNat : Nat) : Int) = 10) = decide (c = 10) := u8_eq c 10
      have g3 : decide (((c.toNat : Nat) : Int) = 13) = decide (c = 13) := u8_eq c 13
      have g4 : decide (((c.toNat : Nat) : Int) = 0) = decide (c = 0) := u8_eq c 0
      have hb1 : ∀ l : List UInt8, Bs l ++ [.int .u8 92, .int .u8 92] = Bs (l ++ [92, 92]) := fun l => Bs_two92 l 92
      have hb2 : ∀ l : List UInt8, Bs l ++ [.int .u8 92, .int .u8 110] = Bs (l ++ [92, 110]) := fun l => Bs_two92 l 110
      have hb3 : ∀ l : List UInt8, Bs l ++ [.int .u8 92, .int .u8 114] = Bs (l ++ [92, 114]) := fun l => Bs_two92 l 114
      have hb4 : ∀ l : List UInt8, Bs l ++ [.int .u8 92, .int .u8 48] = Bs (l ++ [92, 48]) := fun l => Bs_two92 l 48
      have hb5 : ∀ l : List UInt8, Bs l ++ [.int .u8 ((c.toNat : Nat) : Int)] = Bs (l ++ [c]) := fun l => Bs_push
      have fin : ∀ e : List UInt8, escC c = e → tolL (s.take (i + 1)) = tolL (s.take i) ++ e := fun e he => by rw [htk, he]
      by_cases h1 : c = 92
      · have d1 : decide (c = 92) = true := decide_eq_true h1
        have e := fin [92, 92] (by rw [h1]; rfl)
        simp only [b_rgvalue_0, c1, hat, g1, d1, hb1, Int.toNat_natCast, Bs_len, go_sem, Nat.reduceDiv, Nat.reduceMod, ↓reduceIte, Nat.reduceEqDiff, Nat.reduceBEq, Nat.reduceSub, Nat.reduceLT, Nat.reduceAdd, Nat.reduceLeDiff, reduceCtorEq, Int.reduceEq, Int.reduceNe, Int.reduceLT, Int.reduceLE, Int.reduceToNat]
        exact ⟨⟨by omega, by omega⟩, ⟨by (first | omega | (simp only [lenOk, bytesOk, inI, IntKind.bits, List.length_append, Bs_len, List.length_cons, List.length_nil, List.length_map, List.length_take, List.length_drop, List.length_replicate]; omega)), by (first | omega | (simp only [lenOk, bytesOk, inI, IntKind.bits, List.length_append, Bs_len, List.length_cons, List.length_nil, List.length_map, List.length_take, List.length_drop, List.length_replicate]; omega))⟩, ⟨by omega, by omega⟩, hR _ (i + 1) hil (by omega) (by rw [e]; rfl)⟩
      have d1 : decide (c = 92) = false := decide_eq_false h1
      by_cases h2 : c = 10
      · have d2 : decide (c = 10) = true := decide_eq_true h2
        have e := fin [92, 110] (by rw [h2]; rfl)
        simp only [b_rgvalue_0, c1, hat, g1, d1, g2, d2, hb2, Int.toNat_natCast, Bs_len, go_sem, Nat.reduceDiv, Nat.reduceMod, ↓reduceIte, Nat.reduceEqDiff, Nat.reduceBEq, Nat.reduceSub, Nat.reduceLT, Nat.reduceAdd, Nat.reduceLeDiff, reduceCtorEq, Int.reduceEq, Int.reduceNe, Int.reduceLT, Int.reduceLE, Int.reduceToNat]
        exact ⟨⟨by omega, by omega⟩, ⟨by (first | omega | (simp only [lenOk, bytesOk, inI, IntKind.bits, List.length_append, Bs_len, List.length_cons, List.length_nil, List.length_map, List.length_take, List.length_drop, List.length_replicate]; omega)), by (first | omega | (simp only [lenOk, bytesOk, inI, IntKind.bits, List.length_append, Bs_len, List.length_cons, List.length_nil, List.length_map, List.length_take, List.length_drop, List.length_replicate]; omega))⟩, ⟨by omega, by omega⟩, hR _ (i + 1) hil (by omega) (by rw [e]; rfl)⟩
      have d2 : decide (c = 10) = false := decide_eq_false h2
      by_cases h3 : c = 13
      · have d3 : decide (c = 13) = true := decide_eq_true h3
        have e := fin [92, 114] (by rw [h3]; rfl)
        simp only [b_rgvalue_0, c1, hat, g1, d1, g2, d2, g3, d3, hb3, Int.toNat_natCast, Bs_len, go_sem, Nat.reduceDiv, Nat.reduceMod, ↓reduceIte, Nat.reduceEqDiff, Nat.reduceBEq, Nat.reduceSub, Nat.reduceLT, Nat.reduceAdd, Nat.reduceLeDiff, reduceCtorEq, Int.reduceEq, Int.reduceNe, Int.reduceLT, Int.reduceLE, Int.reduceToNat]
        exact ⟨⟨by omega, by omega⟩, ⟨by (first | omega | (simp only [lenOk, bytesOk, inI, IntKind.bits, List.length_append, Bs_len, List.length_cons, List.length_nil, List.length_map, List.length_take, List.length_drop, List.length_replicate]; omega)), by (first | omega | (simp only [lenOk, bytesOk, inI, IntKind.bits, List.length_append, Bs_len, List.length_cons, List.length_nil, List.length_map, List.length_take, List.length_drop, List.length_replicate]; omega))⟩, ⟨by omega, by omega⟩, hR _ (i + 1) hil (by omega) (by rw [e]; rfl)⟩
      have d3 : decide (c = 13) = false := decide_eq_false h3
      by_cases h4 : c = 0
      · have d4 : decide (c = 0) = true := decide_eq_true h4
        have e := fin [92, 48] (by rw [h4]; rfl)
        simp only [b_rgvalue_0, c1, hat, g1, d1, g2, d2, g3, d3, g4, d4, hb4, Int.toNat_natCast, Bs_len, go_sem, Nat.reduceDiv, Nat.reduceMod, ↓reduceIte, Nat.reduceEqDiff, Nat.reduceBEq, Nat.reduceSub, Nat.reduceLT, Nat.reduceAdd, Nat.reduceLeDiff, reduceCtorEq, Int.reduceEq, Int.reduceNe, Int.reduceLT, Int.reduceLE, Int.reduceToNat]
        exact ⟨⟨by omega, by omega⟩, ⟨by (first | omega | (simp only [lenOk, bytesOk, inI, IntKind.bits, List.length_append, Bs_len, List.length_cons, List.length_nil, List.length_map, List.length_take, List.length_drop, List.length_replicate]; omega)), by (first | omega | (simp only [lenOk, bytesOk, inI, IntKind.bits, List.length_append, Bs_len, List.length_cons, List.length_nil, List.length_map, List.length_take, List.length_drop, List.length_replicate]; omega))⟩, ⟨by omega, by omega⟩, hR _ (i + 1) hil (by omega) (by rw [e]; rfl)⟩
      have d4 : decide (c = 0) = false := decide_eq_false h4
      have e := fin [c] (by unfold escC; rw [if_neg h1, if_neg h2, if_neg h3, if_neg h4])
      simp only [b_rgvalue_0, c1, hat, g1, d1, g2, d2, g3, d3, g4, d4, hb5, Int.toNat_natCast, Bs_len, go_sem, Nat.reduceDiv, Nat.reduceMod, ↓reduceIte, Nat.reduceEqDiff, Nat.reduceBEq, Nat.reduceSub, Nat.reduceLT, Nat.reduceAdd, Nat.reduceLeDiff, reduceCtorEq, Int.reduceEq, Int.reduceNe, Int.reduceLT, Int.reduceLE, Int.reduceToNat]
      exact ⟨⟨by omega, by omega⟩, ⟨by omega, by omega⟩, ⟨by (first | omega | (simp only [lenOk, bytesOk, inI, IntKind.bits, List.length_append, Bs_len, List.length_cons, List.length_nil, List.length_map, List.length_take, List.length_drop, List.length_replicate]; omega)), by (first | omega | (simp only [lenOk, bytesOk, inI, IntKind.bits, List.length_append, Bs_len, List.length_cons, List.length_nil, List.length_map, List.length_take, List.length_drop, List.length_replicate]; omega))⟩, ⟨by omega, by omega⟩, hR _ (i + 1) hil (by omega) (by rw [e]; rfl)⟩
    · have c1 : decide ((i : Int) < (s.length : Int)) = false := decide_eq_false (by omega)
      have e : s.take i = s := List.take_of_length_le (by omega)
      rw [e]
      simp only [b_rgvalue_0, t_rgvalue_0, r_rgvalue, c1, unB_Bs, go_sem, Nat.reduceDiv, Nat.reduceMod, ↓reduceIte, Nat.reduceEqDiff, Nat.reduceBEq, Nat.reduceSub, Nat.reduceLT, Nat.reduceAdd, Nat.reduceLeDiff, reduceCtorEq, Int.reduceEq, Int.reduceNe, Int.reduceLT, Int.reduceLE, Int.reduceToNat]
  · cases hs
end Go.Proofs.YtfabdnpeohpgnaaGreatDoor
namespace Go.Proofs.YtfabdnpeohpgnaaGreatDoor
set_option linter.all false
open Go.RowKit
open Go.Lib (index hasPrefix trimPrefix cut indexAny)
end Go.Proofs.YtfabdnpeohpgnaaGreatDoor
