import Derived.Test.YtfabdnpeohpgnaaDoorQChgLaw
import Derived.Test.YtfabdnpeohpgnaaDoorChecked
import Derived.Test.YtfabdnpeohpgnaaDoorQAMS
import Derived.Test.YtfabdnpeohpgnaaDoorQShelf
import Derived.Test.YtfabdnpeohpgnaaDoorQMem
import Derived.Laws.RangeAny
import Derived.Laws.Runes
import Derived.Deep.LoopGhost
import Derived.Deep.QuietTactic
import Derived.WalkMore
namespace Go.Proofs.YtfabdnpeohpgnaaDoor
set_option linter.all false
open Go.RowKit
open Go.Lib (index hasPrefix trimPrefix cut indexAny itoa)
theorem cutl1' (s p : List UInt8) : (cut s p).1.length ≤ s.length ∧ (cut s p).2.1.length ≤ s.length := by
  cases h : (cut s p).2.2 with
  | true =>
    have := congrArg List.length (cut_t h)
    simp only [List.length_append] at this; omega
  | false => rw [(cut_f h).1, (cut_f h).2]; simp
theorem psl_mem_len (c : UInt8) : ∀ (l o : List UInt8), o ∈ psl c l → o.length ≤ l.length
  | [], o, h => by rw [psl, List.mem_singleton] at h; rw [h]; simp
  | b :: l, o, h => by
    by_cases hb : b = c
    · subst hb
      rw [psl_cons_eq] at h
      rcases List.mem_cons.1 h with rfl | h
      · simp
      · have := psl_mem_len b l o h; simp only [List.length_cons]; omega
    · obtain ⟨x, t, e1, e2⟩ := psl_cons_ne hb l
      rw [e2] at h
      rcases List.mem_cons.1 h with rfl | h
      · have := psl_mem_len c l x (by rw [e1]; exact List.mem_cons_self ..)
        simp only [List.length_cons]; omega
      · have := psl_mem_len c l o (by rw [e1]; exact List.mem_cons_of_mem _ h)
        simp only [List.length_cons]; omega
def gexsS : Spec := fun xs hp => match xs, hp with
  | [.ref 0 0 0, .str m], [.cells T [(1, .str r), (1, .bool b)]] => some ⟨.own 1 (psl 0 m).length, [.cells T [(1, .str r), (1, .bool (b || (psl 0 m).any fun o => !exOk o))], .row 44 2 (psl 0 m).length (((psl 0 m).map exP).map exV)], m.length ≤ 1000000⟩
  | _, _ => none
def phiX : Phi := phiL [(35, [], splitS), (20, [], cutS), (36, [], gmeantS), (15, [], gtoldS)]
theorem phiX_ok : PhiOk Tryd.prog phiX := phi_cons split_ok (by kernel_rfl) (phi_cons cut_ok (by kernel_rfl) (phi_cons gmeant_ok (by kernel_rfl) (phi_cons gtold_ok (by kernel_rfl) phi_nil)))
theorem phiX_1 : phiX 35 = some ([], splitS) := rfl
theorem phiX_2 : phiX 20 = some ([], cutS) := rfl
theorem phiX_3 : phiX 36 = some ([], gmeantS) := rfl
theorem phiX_4 : phiX 15 = some ([], gtoldS) := rfl
set_option maxHeartbeats 4000000 in
theorem gexs_ok : FnOk Tryd.prog 22 gexsS := by
  refine fn_slim2 Tryd.func22 s_gexs phiX_ok ?_
  intro xs hp r hs hp'
  unfold gexsS at hs
  split at hs
  · injection hs with hs; subst hs
    rename_i m T rr b
    have p1 : m.length ≤ 1000000 := hp'
    have hpl := psl_join_len 0 m
    have hpm := psl_mem_len 0 m
    refine ⟨len_le (by kernel_rfl), ?_⟩
    simp only [c_gexs, phiX_1, splitS, go_sem, Nat.reduceDiv, Nat.reduceMod, ↓reduceIte, Nat.reduceEqDiff, Nat.reduceBEq, Nat.reduceSub, Nat.reduceLT, Nat.reduceAdd, Nat.reduceLeDiff, reduceCtorEq, Int.reduceEq, Int.reduceNe, Int.reduceLT, Int.reduceLE, Int.reduceToNat]
    generalize psl 0 m = ps at *
    refine ⟨by omega, ?_⟩
    refine loop2P [(5, 44, 2)] [0, 5, 13, 14, 15] [0, 1, 2] (fun i : Nat => ⟨[(0, .ref 0 0 0), (5, .own 2 i), (13, .own 1 0), (14, .int .i64 (ps.length : Int)), (15, .int .i64 (i : Int))],
      [.cells T [(1, .str rr), (1, .bool (b || (ps.take i).any fun o => !exOk o))], .row 9 1 0 (ps.map AV.str), .row 44 2 i (((ps.take i).map exP).map exV)]⟩)
      (fun i => i ≤ ps.length) (fun i => ps.length - i) 0 ?_ (Nat.zero_le _) ⟨rfl, by rfl⟩ (fun i hi R hR => ?_)
    · simp only [List.take_zero, List.any_nil, Bool.or_false, List.map_nil]
      rfl
    by_cases hil : i < ps.length
    · have c1 : decide ((i : Int) < (ps.length : Int)) = true := decide_eq_true (by omega)
      have hget := getD_map AV.str ps [] (AV.str []) hil
      have hga : ps.getD i [] = ps[i] := by simp [List.getD_eq_getElem?_getD, List.getElem?_eq_getElem hil]
      have hol := hpm ps[i] (List.getElem_mem _)
      have htk : ps.take (i + 1) = ps.take i ++ [ps[i]] := by rw [List.take_add_one, List.getElem?_eq_getElem hil]; rfl
      generalize ps[i] = o at *
      obtain ⟨l1, l2⟩ := cutl1' o [58]
      have l3 := mea_len (cut o [58]).2.1
      have hlen : (((ps.take i).map exP).map exV ++ [AV.agg [(1, AV.str (cut o [58]).1), (1, AV.str (meaL (cut o [58]).2.1))]]).length = i + 1 := by simp; omega
      have hrow : ((ps.take i).map exP).map exV ++ [AV.agg [(1, AV.str (cut o [58]).1), (1, AV.str (meaL (cut o [58]).2.1))]] = ((ps.take (i + 1)).map exP).map exV := by
        rw [htk, List.map_append, List.map_append]; rfl
      have hany : (b || (ps.take (i + 1)).any fun o => !exOk o) = ((b || (ps.take i).any fun o => !exOk o) || !exOk o) := by
        rw [htk, List.any_append, List.any_cons, List.any_nil, Bool.or_false, Bool.or_assoc]
      have hok : exOk o = ((cut o [58]).2.2 && decide (tolL (meaL (cut o [58]).2.1) = (cut o [58]).2.1)) := rfl
      rw [hok] at hany
      have fin : ∀ (bb : Bool) s'', (b || (ps.take (i + 1)).any fun o => !exOk o) = bb → kp [0, 5, 13, 14, 15] [0, 1, 2].length (toS s'') = some ⟨[(0, .ref 0 0 0), (5, .own 2 (i + 1)), (13, .own 1 0), (14, .int .i64 (ps.length : Int)), (15, .int .i64 ((i : Int) + 1))],
          [.cells T [(1, .str rr), (1, .bool bb)], .row 9 1 0 (ps.map AV.str), .row 44 2 (i + 1) (((ps.take i).map exP).map exV ++ [AV.agg [(1, AV.str (cut o [58]).1), (1, AV.str (meaL (cut o [58]).2.1))]])]⟩ → R s'' := by
        intro bb s'' hbb hk
        refine hR s'' (i + 1) hil (by omega) ?_
        rw [hk, hbb, ← hrow]; rfl
      generalize (b || (ps.take i).any fun o => !exOk o) = bi at *
      cases bi with
      | true =>
        simp only [b_gexs_0, c1, hget, hga, phiX_2, phiX_3, phiX_4, cutS, gmeantS, gtoldS, Int.toNat_natCast, List.length_map, go_sem, Nat.reduceDiv, Nat.reduceMod, ↓reduceIte, Nat.reduceEqDiff, Nat.reduceBEq, Nat.reduceSub, Nat.reduceLT, Nat.reduceAdd, Nat.reduceLeDiff, reduceCtorEq, Int.reduceEq, Int.reduceNe, Int.reduceLT, Int.reduceLE, Int.reduceToNat]
        exact ⟨⟨by omega, by omega⟩, hil, by omega, by omega, ⟨by rw [hlen]; (first | omega | (simp only [lenOk, bytesOk, inI, IntKind.bits, List.length_append, Bs_len, List.length_cons, List.length_nil, List.length_map, List.length_take, List.length_drop, List.length_replicate]; omega)), by rw [hlen]; (first | omega | (simp only [lenOk, bytesOk, inI, IntKind.bits, List.length_append, Bs_len, List.length_cons, List.length_nil, List.length_map, List.length_take, List.length_drop, List.length_replicate]; omega))⟩, ⟨by omega, by omega⟩, fin true _ (by rw [hany]; rfl) rfl⟩
      | false =>
        cases h1 : (cut o [58]).2.2 with
        | false =>
          simp only [b_gexs_0, c1, h1, hget, hga, phiX_2, phiX_3, phiX_4, cutS, gmeantS, gtoldS, Int.toNat_natCast, List.length_map, go_sem, Nat.reduceDiv, Nat.reduceMod, ↓reduceIte, Nat.reduceEqDiff, Nat.reduceBEq, Nat.reduceSub, Nat.reduceLT, Nat.reduceAdd, Nat.reduceLeDiff, reduceCtorEq, Int.reduceEq, Int.reduceNe, Int.reduceLT, Int.reduceLE, Int.reduceToNat]
          exact ⟨⟨by omega, by omega⟩, hil, by omega, by omega, ⟨by rw [hlen]; (first | omega | (simp only [lenOk, bytesOk, inI, IntKind.bits, List.length_append, Bs_len, List.length_cons, List.length_nil, List.length_map, List.length_take, List.length_drop, List.length_replicate]; omega)), by rw [hlen]; (first | omega | (simp only [lenOk, bytesOk, inI, IntKind.bits, List.length_append, Bs_len, List.length_cons, List.length_nil, List.length_map, List.length_take, List.length_drop, List.length_replicate]; omega))⟩, ⟨by omega, by omega⟩, fin true _ (by rw [hany, h1]; rfl) rfl⟩
        | true =>
          cases h2 : decide (tolL (meaL (cut o [58]).2.1) = (cut o [58]).2.1) with
          | true =>
            simp only [b_gexs_0, c1, h1, h2, hget, hga, phiX_2, phiX_3, phiX_4, cutS, gmeantS, gtoldS, Int.toNat_natCast, List.length_map, go_sem, Nat.reduceDiv, Nat.reduceMod, ↓reduceIte, Nat.reduceEqDiff, Nat.reduceBEq, Nat.reduceSub, Nat.reduceLT, Nat.reduceAdd, Nat.reduceLeDiff, reduceCtorEq, Int.reduceEq, Int.reduceNe, Int.reduceLT, Int.reduceLE, Int.reduceToNat]
            exact ⟨⟨by omega, by omega⟩, hil, by omega, by omega, by omega, ⟨by rw [hlen]; (first | omega | (simp only [lenOk, bytesOk, inI, IntKind.bits, List.length_append, Bs_len, List.length_cons, List.length_nil, List.length_map, List.length_take, List.length_drop, List.length_replicate]; omega)), by rw [hlen]; (first | omega | (simp only [lenOk, bytesOk, inI, IntKind.bits, List.length_append, Bs_len, List.length_cons, List.length_nil, List.length_map, List.length_take, List.length_drop, List.length_replicate]; omega))⟩, ⟨by omega, by omega⟩, fin false _ (by rw [hany, h1, h2]; rfl) rfl⟩
          | false =>
            simp only [b_gexs_0, c1, h1, h2, hget, hga, phiX_2, phiX_3, phiX_4, cutS, gmeantS, gtoldS, Int.toNat_natCast, List.length_map, go_sem, Nat.reduceDiv, Nat.reduceMod, ↓reduceIte, Nat.reduceEqDiff, Nat.reduceBEq, Nat.reduceSub, Nat.reduceLT, Nat.reduceAdd, Nat.reduceLeDiff, reduceCtorEq, Int.reduceEq, Int.reduceNe, Int.reduceLT, Int.reduceLE, Int.reduceToNat]
            exact ⟨⟨by omega, by omega⟩, hil, by omega, by omega, by omega, ⟨by rw [hlen]; (first | omega | (simp only [lenOk, bytesOk, inI, IntKind.bits, List.length_append, Bs_len, List.length_cons, List.length_nil, List.length_map, List.length_take, List.length_drop, List.length_replicate]; omega)), by rw [hlen]; (first | omega | (simp only [lenOk, bytesOk, inI, IntKind.bits, List.length_append, Bs_len, List.length_cons, List.length_nil, List.length_map, List.length_take, List.length_drop, List.length_replicate]; omega))⟩, ⟨by omega, by omega⟩, fin true _ (by rw [hany, h1, h2]; rfl) rfl⟩
    · have c1 : decide ((i : Int) < (ps.length : Int)) = false := decide_eq_false (by omega)
      obtain rfl : i = ps.length := by omega
      rw [List.take_length]
      simp only [b_gexs_0, t_gexs_0, r_gexs, c1, go_sem, Nat.reduceDiv, Nat.reduceMod, ↓reduceIte, Nat.reduceEqDiff, Nat.reduceBEq, Nat.reduceSub, Nat.reduceLT, Nat.reduceAdd, Nat.reduceLeDiff, reduceCtorEq, Int.reduceEq, Int.reduceNe, Int.reduceLT, Int.reduceLE, Int.reduceToNat]
  · cases hs
end Go.Proofs.YtfabdnpeohpgnaaDoor
namespace Go.Proofs.YtfabdnpeohpgnaaDoor
set_option linter.all false
open Go.RowKit
def b_rgsame_0 : ACode := (.seq (.seq (.reg none [⟨(some 58), (.mv (.t 5)), none⟩, ⟨(some 59), (.fa 23 (.t 2)), none⟩, ⟨(some 60), (.ld (.one (.con (.slice none 0 0))) (.t 59)), none⟩, ⟨(some 61), (.len none false (.t 60)), none⟩, ⟨(some 62), (.bin .lss (.t 58) (.t 61)), none⟩]) (.cond (.t 62) .skip (.exit 0))) (.seq (.block 1 (.seq (.reg (some [(0, false), (1, false), (2, false), (3, false), (4, false), (5, false), (6, false), (7, false), (8, false), (9, false), (10, true)]) [⟨(some 65), (.fa 23 (.t 2)), none⟩, ⟨(some 66), (.ld (.one (.con (.slice none 0 0))) (.t 65)), none⟩, ⟨(some 67), (.mv (.t 5)), none⟩, ⟨(some 68), (.ia 2 (.agg [(1, (.str [])), (1, (.str []))]) (.t 66) (.t 67)), none⟩, ⟨(some 69), (.ld (.st 2) (.t 68)), none⟩, ⟨(some 70), (.fa 23 (.t 3)), none⟩, ⟨(some 71), (.ld (.one (.con (.slice none 0 0))) (.t 70)), none⟩, ⟨(some 72), (.mv (.t 5)), none⟩, ⟨(some 73), (.ia 2 (.agg [(1, (.str [])), (1, (.str []))]) (.t 71) (.t 72)), none⟩, ⟨(some 74), (.ld (.st 2) (.t 73)), none⟩, ⟨(some 75), (.eqS true [(0, ((.one (.str [])), 0)), (1, ((.one (.str [])), 0))] (.t 69) (.t 74)), none⟩]) (.cond (.t 75) (.seq (.reg none [⟨(some 4), (.mv (.c (.bool false))), none⟩]) .ret) .skip))) (.reg none [⟨(some 63), (.mv (.t 5)), none⟩, ⟨(some 64), (.bin .add (.t 63) (.c (.int .i64 1))), none⟩, ⟨(some 5), (.mv (.t 64)), none⟩])))
def b_rgsame_1 : ACode := (.seq (.seq (.reg none [⟨(some 76), (.mv (.t 6)), none⟩, ⟨(some 77), (.fa 24 (.t 2)), none⟩, ⟨(some 78), (.ld (.one (.con (.slice none 0 0))) (.t 77)), none⟩, ⟨(some 79), (.len none false (.t 78)), none⟩, ⟨(some 80), (.bin .lss (.t 76) (.t 79)), none⟩]) (.cond (.t 80) .skip (.exit 2))) (.seq (.block 3 (.seq (.reg (some [(0, false), (1, false), (2, false), (3, false), (4, false), (5, false), (6, false), (7, false), (8, false), (9, false), (10, true)]) [⟨(some 83), (.fa 24 (.t 2)), none⟩, ⟨(some 84), (.ld (.one (.con (.slice none 0 0))) (.t 83)), none⟩, ⟨(some 85), (.mv (.t 6)), none⟩, ⟨(some 86), (.ia 1 (.str []) (.t 84) (.t 85)), none⟩, ⟨(some 87), (.ld (.one (.str [])) (.t 86)), none⟩, ⟨(some 88), (.fa 24 (.t 3)), none⟩, ⟨(some 89), (.ld (.one (.con (.slice none 0 0))) (.t 88)), none⟩, ⟨(some 90), (.mv (.t 6)), none⟩, ⟨(some 91), (.ia 1 (.str []) (.t 89) (.t 90)), none⟩, ⟨(some 92), (.ld (.one (.str [])) (.t 91)), none⟩, ⟨(some 93), (.bin .neq (.t 87) (.t 92)), none⟩]) (.cond (.t 93) (.seq (.reg none [⟨(some 4), (.mv (.c (.bool false))), none⟩]) .ret) .skip))) (.reg none [⟨(some 81), (.mv (.t 6)), none⟩, ⟨(some 82), (.bin .add (.t 81) (.c (.int .i64 1))), none⟩, ⟨(some 6), (.mv (.t 82)), none⟩])))
def t_rgsame_0 : ACode := (.seq (.reg none [⟨(some 4), (.mv (.c (.bool true))), none⟩]) .ret)
def t_rgsame_1 : ACode := (.seq (.seq (.reg none [⟨(some 6), (.mv (.c (.int .i64 0))), none⟩]) (.block 2 (.loop b_rgsame_1))) t_rgsame_0)
def c_rgsame : ACode := (.seq (.reg none [⟨(some 2), (.box 26 26 (.t 0)), none⟩, ⟨(some 3), (.box 26 26 (.t 1)), none⟩, ⟨(some 4), (.mv (.c (.bool false))), none⟩]) (.seq (.seq (.reg none [⟨(some 7), (.fa 0 (.t 2)), none⟩, ⟨(some 8), (.ld (.arr 20) (.t 7)), none⟩, ⟨(some 9), (.fa 0 (.t 3)), none⟩, ⟨(some 10), (.ld (.arr 20) (.t 9)), none⟩, ⟨(some 11), (.eqA true 20 (.t 8) (.t 10)), none⟩, ⟨(some 12), (.mv (.t 11)), none⟩, ⟨(some 13), (.fa 20 (.t 2)), (some (12, false))⟩, ⟨(some 14), (.ld (.one (.str [])) (.t 13)), (some (12, false))⟩, ⟨(some 15), (.fa 20 (.t 3)), (some (12, false))⟩, ⟨(some 16), (.ld (.one (.str [])) (.t 15)), (some (12, false))⟩, ⟨(some 17), (.bin .neq (.t 14) (.t 16)), (some (12, false))⟩, ⟨(some 18), (.pick (.t 12) (.c (.bool true)) (.t 17)), none⟩, ⟨(some 19), (.mv (.t 18)), none⟩, ⟨(some 20), (.fa 21 (.t 2)), (some (19, false))⟩, ⟨(some 21), (.ld (.one (.int .i64 0)) (.t 20)), (some (19, false))⟩, ⟨(some 22), (.fa 21 (.t 3)), (some (19, false))⟩, ⟨(some 23), (.ld (.one (.int .i64 0)) (.t 22)), (some (19, false))⟩, ⟨(some 24), (.bin .neq (.t 21) (.t 23)), (some (19, false))⟩, ⟨(some 25), (.pick (.t 19) (.c (.bool true)) (.t 24)), none⟩, ⟨(some 26), (.mv (.t 25)), none⟩, ⟨(some 27), (.fa 22 (.t 2)), (some (26, false))⟩, ⟨(some 28), (.ld (.one (.int .i64 0)) (.t 27)), (some (26, false))⟩, ⟨(some 29), (.fa 22 (.t 3)), (some (26, false))⟩, ⟨(some 30), (.ld (.one (.int .i64 0)) (.t 29)), (some (26, false))⟩, ⟨(some 31), (.bin .neq (.t 28) (.t 30)), (some (26, false))⟩, ⟨(some 32), (.pick (.t 26) (.c (.bool true)) (.t 31)), none⟩, ⟨(some 33), (.mv (.t 32)), none⟩, ⟨(some 34), (.fa 25 (.t 2)), (some (33, false))⟩, ⟨(some 35), (.ld (.one (.str [])) (.t 34)), (some (33, false))⟩, ⟨(some 36), (.fa 25 (.t 3)), (some (33, false))⟩, ⟨(some 37), (.ld (.one (.str [])) (.t 36)), (some (33, false))⟩, ⟨(some 38), (.bin .neq (.t 35) (.t 37)), (some (33, false))⟩, ⟨(some 39), (.pick (.t 33) (.c (.bool true)) (.t 38)), none⟩, ⟨(some 40), (.mv (.t 39)), none⟩, ⟨(some 41), (.fa 23 (.t 2)), (some (40, false))⟩, ⟨(some 42), (.ld (.one (.con (.slice none 0 0))) (.t 41)), (some (40, false))⟩, ⟨(some 43), (.len none false (.t 42)), (some (40, false))⟩, ⟨(some 44), (.fa 23 (.t 3)), (some (40, false))⟩, ⟨(some 45), (.ld (.one (.con (.slice none 0 0))) (.t 44)), (some (40, false))⟩, ⟨(some 46), (.len none false (.t 45)), (some (40, false))⟩, ⟨(some 47), (.bin .neq (.t 43) (.t 46)), (some (40, false))⟩, ⟨(some 48), (.pick (.t 40) (.c (.bool true)) (.t 47)), none⟩, ⟨(some 49), (.mv (.t 48)), none⟩, ⟨(some 50), (.fa 24 (.t 2)), (some (49, false))⟩, ⟨(some 51), (.ld (.one (.con (.slice none 0 0))) (.t 50)), (some (49, false))⟩, ⟨(some 52), (.len none false (.t 51)), (some (49, false))⟩, ⟨(some 53), (.fa 24 (.t 3)), (some (49, false))⟩, ⟨(some 54), (.ld (.one (.con (.slice none 0 0))) (.t 53)), (some (49, false))⟩, ⟨(some 55), (.len none false (.t 54)), (some (49, false))⟩, ⟨(some 56), (.bin .neq (.t 52) (.t 55)), (some (49, false))⟩, ⟨(some 57), (.pick (.t 49) (.c (.bool true)) (.t 56)), none⟩]) (.cond (.t 57) (.seq (.reg none [⟨(some 4), (.mv (.c (.bool false))), none⟩]) .ret) .skip)) (.seq (.seq (.reg none [⟨(some 5), (.mv (.c (.int .i64 0))), none⟩]) (.block 0 (.loop b_rgsame_0))) t_rgsame_1)))
def r_rgsame : List ARes := [(.t 4)]
theorem s_rgsame : slimF Tryd.prog Tryd.f9 = some (c_rgsame, r_rgsame) := by kernel_rfl
end Go.Proofs.YtfabdnpeohpgnaaDoor
namespace Go.Proofs.YtfabdnpeohpgnaaDoor
set_option linter.all false
open Go.RowKit
open Go.Lib (index hasPrefix cut indexAny itoa decDigits)
theorem chg_more {s m : List UInt8} (h : chgB s = true) : chgB (s ++ m) = true ∧ chgC (s ++ m) = ⟨(chgC s).man, (chgC s).user, (chgC s).time, (chgC s).zone, (chgC s).extras, (chgC s).files, (chgC s).desc ++ m⟩ := by
  obtain ⟨h1, h2⟩ := body_chg h
  have h3 := chgC_len s
  generalize chgC s = c at *
  have e : bodyH ⟨c.man, c.user, c.time, c.zone, c.extras, c.files, c.desc ++ m⟩ = s ++ m := by
    rw [← h2]; unfold bodyH dateT; simp
  have := chg_body (c := ⟨c.man, c.user, c.time, c.zone, c.extras, c.files, c.desc ++ m⟩) h1 h3
  rwa [e] at this
theorem chg_short {s : List UInt8} (h : s.length ≤ 40) : chgB s = false := by
  cases hb : chgB s with
  | false => rfl
  | true =>
    obtain ⟨h1, h2⟩ := body_chg hb
    have := congrArg List.length h2
    have hh := hexL_length (chgC s).man
    rw [chgC_len] at hh
    unfold bodyH at this
    simp only [List.length_append, List.length_cons] at this
    omega
end Go.Proofs.YtfabdnpeohpgnaaDoor
namespace Go.Proofs.YtfabdnpeohpgnaaDoor
set_option linter.all false
open Go.RowKit
def sameH (c d : ChgL) : Bool := decide (c.man = d.man) && decide (c.user = d.user) && decide (c.time = d.time) && decide (c.zone = d.zone) && decide (c.desc = d.desc) && decide (c.extras = d.extras) && decide (c.files = d.files)
theorem sameH_iff {c d : ChgL} : sameH c d = true ↔ c = d := by
  cases c; cases d; simp [sameH]; constructor
  · rintro ⟨⟨⟨⟨⟨⟨rfl, rfl⟩, rfl⟩, rfl⟩, rfl⟩, rfl⟩, rfl⟩; simp
  · rintro ⟨rfl, rfl, rfl, rfl, rfl, rfl, rfl⟩; simp
theorem sameH_self (c : ChgL) : sameH c c = true := sameH_iff.2 rfl
def argS7 (m : List Value) (ke : Nat) (es : List AV) (kf : Nat) (fs : List AV) : Prop := m = (unV m).map U ∧ es = (es.map unEx).map exV ∧ fs = (fs.map unS).map AV.str ∧ (ke = 2 ∨ es = []) ∧ (kf = 1 ∨ fs = []) ∧ (unV m).length = 20 ∧ es.length ≤ 1000000 ∧ fs.length ≤ 1000000
def rgsameS : Spec := fun xs hp => match xs, hp with
  | [.agg [(20, .blob m), (1, .str u), (1, .int .i64 t), (1, .int .i64 z), (1, .sl ke es), (1, .sl kf fs), (1, .str d)], .agg [(20, .blob m2), (1, .str u2), (1, .int .i64 t2), (1, .int .i64 z2), (1, .sl ke2 es2), (1, .sl kf2 fs2), (1, .str d2)]], [] =>
    some ⟨.bool (sameH ⟨unV m, u, t, z, es.map unEx, fs.map unS, d⟩ ⟨unV m2, u2, t2, z2, es2.map unEx, fs2.map unS, d2⟩), [], argS7 m ke es kf fs ∧ argS7 m2 ke2 es2 kf2 fs2⟩
  | _, _ => none
theorem takeX_succ {α : Type} {l m : List α} {i : Nat} (h : l.take i = m.take i) (hi : i < l.length) (hj : i < m.length) (e : l[i] = m[i]) : l.take (i + 1) = m.take (i + 1) := by
  rw [List.take_add_one, List.take_add_one, h, List.getElem?_eq_getElem hi, List.getElem?_eq_getElem hj, e]
set_option maxHeartbeats 4000000 in
theorem rgsame_ok : FnOk Tryd.prog 9 rgsameS := by
  refine fn_slim2 Tryd.func9 s_rgsame (Φ := phiL []) phi_nil ?_
  intro xs hp r hs hp'
  unfold rgsameS at hs
  split at hs
  · injection hs with hs; subst hs
    rename_i m u t z ke es kf fs d m2 u2 t2 z2 ke2 es2 kf2 fs2 d2
    obtain ⟨⟨q1, q2, q3, q4, q5, q6, q7, q8⟩, w1, w2, w3, w4, w5, w6, w7, w8⟩ := hp'
    generalize unV m = m at *
    subst q1
    generalize es.map unEx = es at *
    subst q2
    generalize fs.map unS = fs at *
    subst q3
    generalize unV m2 = m2 at *
    subst w1
    generalize es2.map unEx = es2 at *
    subst w2
    generalize fs2.map unS = fs2 at *
    subst w3
    rw [List.length_map] at q7 q8 w7 w8
    refine ⟨len_le (by kernel_rfl), ?_⟩
    unfold sameH
    simp only
    cases h1 : decide (m = m2) with
    | false =>
      simp only [c_rgsame, h1, r_rgsame, unV_U, List.length_map, Bool.false_and, Bool.and_false, Bool.true_and, go_sem, Nat.reduceDiv, Nat.reduceMod, ↓reduceIte, Nat.reduceEqDiff, Nat.reduceBEq, Nat.reduceSub, Nat.reduceLT, Nat.reduceAdd, Nat.reduceLeDiff, reduceCtorEq, Int.reduceEq, Int.reduceNe, Int.reduceLT, Int.reduceLE, Int.reduceToNat]
      (repeat' apply And.intro); all_goals first | exact q6 | exact w6 | omega | rfl | skip
    | true =>
    cases h2 : decide (u = u2) with
    | false =>
      simp only [c_rgsame, h1, h2, r_rgsame, unV_U, List.length_map, Bool.false_and, Bool.and_false, Bool.true_and, go_sem, Nat.reduceDiv, Nat.reduceMod, ↓reduceIte, Nat.reduceEqDiff, Nat.reduceBEq, Nat.reduceSub, Nat.reduceLT, Nat.reduceAdd, Nat.reduceLeDiff, reduceCtorEq, Int.reduceEq, Int.reduceNe, Int.reduceLT, Int.reduceLE, Int.reduceToNat]
      (repeat' apply And.intro); all_goals first | exact q6 | exact w6 | omega | rfl | skip
    | true =>
    cases h3 : decide (t = t2) with
    | false =>
      simp only [c_rgsame, h1, h2, h3, r_rgsame, unV_U, List.length_map, Bool.false_and, Bool.and_false, Bool.true_and, go_sem, Nat.reduceDiv, Nat.reduceMod, ↓reduceIte, Nat.reduceEqDiff, Nat.reduceBEq, Nat.reduceSub, Nat.reduceLT, Nat.reduceAdd, Nat.reduceLeDiff, reduceCtorEq, Int.reduceEq, Int.reduceNe, Int.reduceLT, Int.reduceLE, Int.reduceToNat]
      (repeat' apply And.intro); all_goals first | exact q6 | exact w6 | omega | rfl | skip
    | true =>
    cases h4 : decide (z = z2) with
    | false =>
      simp only [c_rgsame, h1, h2, h3, h4, r_rgsame, unV_U, List.length_map, Bool.false_and, Bool.and_false, Bool.true_and, go_sem, Nat.reduceDiv, Nat.reduceMod, ↓reduceIte, Nat.reduceEqDiff, Nat.reduceBEq, Nat.reduceSub, Nat.reduceLT, Nat.reduceAdd, Nat.reduceLeDiff, reduceCtorEq, Int.reduceEq, Int.reduceNe, Int.reduceLT, Int.reduceLE, Int.reduceToNat]
      (repeat' apply And.intro); all_goals first | exact q6 | exact w6 | omega | rfl | skip
    | true =>
    cases h5 : decide (d = d2) with
    | false =>
      simp only [c_rgsame, h1, h2, h3, h4, h5, r_rgsame, unV_U, List.length_map, Bool.false_and, Bool.and_false, Bool.true_and, go_sem, Nat.reduceDiv, Nat.reduceMod, ↓reduceIte, Nat.reduceEqDiff, Nat.reduceBEq, Nat.reduceSub, Nat.reduceLT, Nat.reduceAdd, Nat.reduceLeDiff, reduceCtorEq, Int.reduceEq, Int.reduceNe, Int.reduceLT, Int.reduceLE, Int.reduceToNat]
      (repeat' apply And.intro); all_goals first | exact q6 | exact w6 | omega | rfl | skip
    | true =>
    by_cases h6 : es.length = es2.length
    rotate_left
    · have d6 : decide ((es.length : Int) = (es2.length : Int)) = false := decide_eq_false (by omega)
      have e : decide (es = es2) = false := decide_eq_false (by rintro rfl; exact h6 rfl)
      simp only [c_rgsame, h1, h2, h3, h4, h5, d6, e, r_rgsame, unV_U, List.length_map, Bool.false_and, Bool.and_false, Bool.true_and, go_sem, Nat.reduceDiv, Nat.reduceMod, ↓reduceIte, Nat.reduceEqDiff, Nat.reduceBEq, Nat.reduceSub, Nat.reduceLT, Nat.reduceAdd, Nat.reduceLeDiff, reduceCtorEq, Int.reduceEq, Int.reduceNe, Int.reduceLT, Int.reduceLE, Int.reduceToNat]
      (repeat' apply And.intro); all_goals first | exact q6 | exact w6 | omega | rfl | skip
    have d6 : decide ((es.length : Int) = (es2.length : Int)) = true := decide_eq_true (by omega)
    by_cases h7 : fs.length = fs2.length
    rotate_left
    · have d7 : decide ((fs.length : Int) = (fs2.length : Int)) = false := decide_eq_false (by omega)
      have e : decide (fs = fs2) = false := decide_eq_false (by rintro rfl; exact h7 rfl)
      simp only [c_rgsame, h1, h2, h3, h4, h5, d6, d7, e, r_rgsame, unV_U, List.length_map, Bool.false_and, Bool.and_false, Bool.true_and, go_sem, Nat.reduceDiv, Nat.reduceMod, ↓reduceIte, Nat.reduceEqDiff, Nat.reduceBEq, Nat.reduceSub, Nat.reduceLT, Nat.reduceAdd, Nat.reduceLeDiff, reduceCtorEq, Int.reduceEq, Int.reduceNe, Int.reduceLT, Int.reduceLE, Int.reduceToNat]
      (repeat' apply And.intro); all_goals first | exact q6 | exact w6 | omega | rfl | skip
    have d7 : decide ((fs.length : Int) = (fs2.length : Int)) = true := decide_eq_true (by omega)
    simp only [c_rgsame, h1, h2, h3, h4, h5, d6, d7, unV_U, Bool.true_and, List.length_map, go_sem, Nat.reduceDiv, Nat.reduceMod, ↓reduceIte, Nat.reduceEqDiff, Nat.reduceBEq, Nat.reduceSub, Nat.reduceLT, Nat.reduceAdd, Nat.reduceLeDiff, reduceCtorEq, Int.reduceEq, Int.reduceNe, Int.reduceLT, Int.reduceLE, Int.reduceToNat]
    refine ⟨⟨q6, w6⟩, ?_⟩
    refine loop2P [] [2, 3, 5] [0, 1] (fun i : Nat => ⟨[(2, .ref 0 0 0), (3, .ref 1 0 0), (5, .int .i64 (i : Int))], [.cells 26 [(20, .blob (m.map U)), (1, .str u), (1, .int .i64 t), (1, .int .i64 z), (1, .sl ke (es.map exV)), (1, .sl kf (fs.map AV.str)), (1, .str d)], .cells 26 [(20, .blob (m2.map U)), (1, .str u2), (1, .int .i64 t2), (1, .int .i64 z2), (1, .sl ke2 (es2.map exV)), (1, .sl kf2 (fs2.map AV.str)), (1, .str d2)]]⟩)
      (fun i => i ≤ es.length ∧ es.take i = es2.take i) (fun i => es.length - i) 0 rfl ⟨Nat.zero_le _, by simp⟩ ⟨rfl, by rfl⟩ (fun j hj R hR => ?_)
    obtain ⟨j1, j2⟩ := hj
    by_cases hjl : j < es.length
    · have c1 : decide ((j : Int) < (es.length : Int)) = true := decide_eq_true (by omega)
      have hk : ke = 2 := q4.resolve_right (by intro h; have := congrArg List.length h; simp at this; rw [this] at hjl; simp at hjl)
      have hk2 : ke2 = 2 := w4.resolve_right (by intro h; have := congrArg List.length h; simp at this; rw [this] at h6; simp at h6; rw [h6] at hjl; simp at hjl)
      subst hk hk2
      have hget := getD_map exV es ([], []) (.agg [(1, (.str [])), (1, (.str []))]) hjl
      have hga : es.getD j ([], []) = es[j] := by simp [List.getD_eq_getElem?_getD, List.getElem?_eq_getElem hjl]
      have hget2 := getD_map exV es2 ([], []) (.agg [(1, (.str [])), (1, (.str []))]) (show j < es2.length by omega)
      have hga2 : es2.getD j ([], []) = es2[j] := by simp [List.getD_eq_getElem?_getD, List.getElem?_eq_getElem (show j < es2.length by omega)]
      have hpe : (decide (es[j].1 = es2[j].1) && decide (es[j].2 = es2[j].2)) = decide (es[j] = es2[j]) := by
        rw [Bool.eq_iff_iff]; simp [Prod.ext_iff]
      cases hx : decide (es[j] = es2[j]) with
      | false =>
        have e : decide (es = es2) = false := decide_eq_false (by rintro rfl; exact (of_decide_eq_false hx) rfl)
        rw [e]
        simp only [b_rgsame_0, r_rgsame, c1, hget, hga, hget2, hga2, exV, hpe, hx, Int.toNat_natCast, List.length_map, go_sem, Nat.reduceDiv, Nat.reduceMod, ↓reduceIte, Nat.reduceEqDiff, Nat.reduceBEq, Nat.reduceSub, Nat.reduceLT, Nat.reduceAdd, Nat.reduceLeDiff, reduceCtorEq, Int.reduceEq, Int.reduceNe, Int.reduceLT, Int.reduceLE, Int.reduceToNat]
        repeat' apply And.intro
        all_goals first | omega | rfl | trivial | skip
      | true =>
        simp only [b_rgsame_0, r_rgsame, c1, hget, hga, hget2, hga2, exV, hpe, hx, Int.toNat_natCast, List.length_map, go_sem, Nat.reduceDiv, Nat.reduceMod, ↓reduceIte, Nat.reduceEqDiff, Nat.reduceBEq, Nat.reduceSub, Nat.reduceLT, Nat.reduceAdd, Nat.reduceLeDiff, reduceCtorEq, Int.reduceEq, Int.reduceNe, Int.reduceLT, Int.reduceLE, Int.reduceToNat]
        refine ⟨⟨by omega, by omega⟩, ⟨by omega, by omega⟩, ⟨by omega, by omega⟩, hR _ (j + 1) ⟨by omega, takeX_succ j2 hjl (by omega) (of_decide_eq_true hx)⟩ (by omega) rfl⟩
    have c1 : decide ((j : Int) < (es.length : Int)) = false := decide_eq_false (by omega)
    have e1 : es = es2 := by
      rw [List.take_of_length_le (by omega), List.take_of_length_le (by omega)] at j2; exact j2
    have e : decide (es = es2) = true := decide_eq_true e1
    rw [e]
    simp only [b_rgsame_0, t_rgsame_1, c1, Bool.true_and, List.length_map, go_sem, Nat.reduceDiv, Nat.reduceMod, ↓reduceIte, Nat.reduceEqDiff, Nat.reduceBEq, Nat.reduceSub, Nat.reduceLT, Nat.reduceAdd, Nat.reduceLeDiff, reduceCtorEq, Int.reduceEq, Int.reduceNe, Int.reduceLT, Int.reduceLE, Int.reduceToNat]
    clear hR R
    refine loop2P [] [2, 3, 6] [0, 1] (fun i : Nat => ⟨[(2, .ref 0 0 0), (3, .ref 1 0 0), (6, .int .i64 (i : Int))], [.cells 26 [(20, .blob (m.map U)), (1, .str u), (1, .int .i64 t), (1, .int .i64 z), (1, .sl ke (es.map exV)), (1, .sl kf (fs.map AV.str)), (1, .str d)], .cells 26 [(20, .blob (m2.map U)), (1, .str u2), (1, .int .i64 t2), (1, .int .i64 z2), (1, .sl ke2 (es2.map exV)), (1, .sl kf2 (fs2.map AV.str)), (1, .str d2)]]⟩)
      (fun i => i ≤ fs.length ∧ fs.take i = fs2.take i) (fun i => fs.length - i) 0 rfl ⟨Nat.zero_le _, by simp⟩ ⟨rfl, by rfl⟩ (fun i hi R hR => ?_)
    obtain ⟨i1, i2⟩ := hi
    by_cases hil : i < fs.length
    · have c1 : decide ((i : Int) < (fs.length : Int)) = true := decide_eq_true (by omega)
      have hk : kf = 1 := q5.resolve_right (by intro h; have := congrArg List.length h; simp at this; rw [this] at hil; simp at hil)
      have hk2 : kf2 = 1 := w5.resolve_right (by intro h; have := congrArg List.length h; simp at this; rw [this] at h7; simp at h7; rw [h7] at hil; simp at hil)
      subst hk hk2
      have hget := getD_map AV.str fs [] (AV.str []) hil
      have hga : fs.getD i [] = fs[i] := by simp [List.getD_eq_getElem?_getD, List.getElem?_eq_getElem hil]
      have hget2 := getD_map AV.str fs2 [] (AV.str []) (show i < fs2.length by omega)
      have hga2 : fs2.getD i [] = fs2[i] := by simp [List.getD_eq_getElem?_getD, List.getElem?_eq_getElem (show i < fs2.length by omega)]
      cases hx : decide (fs[i] = fs2[i]) with
      | false =>
        have e : decide (fs = fs2) = false := decide_eq_false (by rintro rfl; exact (of_decide_eq_false hx) rfl)
        rw [e]
        simp only [b_rgsame_1, r_rgsame, c1, hget, hga, hget2, hga2, hx, Int.toNat_natCast, List.length_map, go_sem, Nat.reduceDiv, Nat.reduceMod, ↓reduceIte, Nat.reduceEqDiff, Nat.reduceBEq, Nat.reduceSub, Nat.reduceLT, Nat.reduceAdd, Nat.reduceLeDiff, reduceCtorEq, Int.reduceEq, Int.reduceNe, Int.reduceLT, Int.reduceLE, Int.reduceToNat]
        repeat' apply And.intro
        all_goals first | omega | rfl | trivial | skip
      | true =>
        simp only [b_rgsame_1, r_rgsame, c1, hget, hga, hget2, hga2, hx, Int.toNat_natCast, List.length_map, go_sem, Nat.reduceDiv, Nat.reduceMod, ↓reduceIte, Nat.reduceEqDiff, Nat.reduceBEq, Nat.reduceSub, Nat.reduceLT, Nat.reduceAdd, Nat.reduceLeDiff, reduceCtorEq, Int.reduceEq, Int.reduceNe, Int.reduceLT, Int.reduceLE, Int.reduceToNat]
        refine ⟨⟨by omega, by omega⟩, ⟨by omega, by omega⟩, ⟨by omega, by omega⟩, hR _ (i + 1) ⟨by omega, takeX_succ i2 hil (by omega) (of_decide_eq_true hx)⟩ (by omega) rfl⟩
    · have c1 : decide ((i : Int) < (fs.length : Int)) = false := decide_eq_false (by omega)
      have e1 : fs = fs2 := by
        rw [List.take_of_length_le (by omega), List.take_of_length_le (by omega)] at i2; exact i2
      have e : decide (fs = fs2) = true := decide_eq_true e1
      rw [e]
      simp only [b_rgsame_1, t_rgsame_0, r_rgsame, c1, List.length_map, go_sem, Nat.reduceDiv, Nat.reduceMod, ↓reduceIte, Nat.reduceEqDiff, Nat.reduceBEq, Nat.reduceSub, Nat.reduceLT, Nat.reduceAdd, Nat.reduceLeDiff, reduceCtorEq, Int.reduceEq, Int.reduceNe, Int.reduceLT, Int.reduceLE, Int.reduceToNat]
  · cases hs
end Go.Proofs.YtfabdnpeohpgnaaDoor
namespace Go.Proofs.YtfabdnpeohpgnaaDoor
set_option linter.all false
open Go.RowKit
open Go.Lib (index hasPrefix trimPrefix cut indexAny)
end Go.Proofs.YtfabdnpeohpgnaaDoor
namespace Go.Proofs.YtfabdnpeohpgnaaDoor
set_option linter.all false
open Go.RowKit
def asciiB (p : List UInt8) : Bool := p.all (fun b => decide (b.toNat < 128)) && decide (2 ≤ p.length) && decide (p.length ≤ 8)
structure AsciiSet (C : ByteArray) : Prop where
  low : ∀ b ∈ C.data.toList, b.toNat < 128
  two : 2 ≤ C.size
  few : C.size ≤ 8
theorem asciiSet_of {p : List UInt8} (h : asciiB p = true) : AsciiSet ⟨p.toArray⟩ := by
  simp only [asciiB, Bool.and_eq_true, List.all_eq_true, decide_eq_true_eq] at h
  exact ⟨h.1.1, h.1.2, h.2⟩
section
variable {C : ByteArray} (hA : AsciiSet C)
include hA
theorem set_hi (b : UInt8) (hb : 128 ≤ b.toNat) : C.data.toList.contains b = false := by
  rw [Bool.eq_false_iff]
  intro h
  have := hA.low b (by simpa using h)
  omega
theorem set_get (i : Nat) (h : i < C.size) : (C[i]'h).toNat < 128 := by
  refine hA.low _ ?_
  have := Lib.data_getElem? C i h
  exact List.mem_of_getElem? this
theorem ibS (n : Nat) (b : UInt8) (hb : 128 ≤ b.toNat) : Lib.indexByte (List.take (C.size - (n + 1)) (List.drop (n + 1) C.data.toList)) b = -1 := by
  have gen : ∀ l : List UInt8, (∀ x ∈ l, x.toNat < 128) → Lib.indexByte l b = -1 := by
    intro l
    induction l with
    | nil => intro _; rfl
    | cons x l ih =>
      intro h
      have hx := h x (by simp)
      have e : (x == b) = false := beq_eq_false_iff_ne.2 (by rintro rfl; omega)
      simp [Lib.indexByte, e, ih fun y hy => h y (by simp [hy])]
  exact gen _ fun x hx => hA.low x (List.mem_of_mem_drop (List.mem_of_mem_take hx))
end
theorem encode_hi (r : Int) (h : 128 ≤ r) : ∃ l : List UInt8, (Utf8.encode r).data.toList = l ∧ 2 ≤ l.length ∧ l.length ≤ 4 ∧ 128 ≤ (l.getD (l.length - 1) 0).toNat := by
  refine ⟨_, rfl, ?_⟩
  unfold Utf8.encode
  dsimp only
  have hc : 128 ≤ (if Utf8.valid r = true then r.toNat else Utf8.runeError) := by
    split
    · omega
    · decide
  generalize (if Utf8.valid r = true then r.toNat else Utf8.runeError) = c at *
  by_cases h2 : c < 2048
  · simp [show ¬ c < 128 by omega, h2]; omega
  · by_cases h3 : c < 65536
    · simp [show ¬ c < 128 by omega, h2, h3]; omega
    · simp [show ¬ c < 128 by omega, h2, h3]; omega
set_option maxHeartbeats 2000000 in
set_option maxRecDepth 1000000 in
theorem indexRune_err {C : ByteArray} (hA : AsciiSet C) (w : World) :
    Calls Tryd.prog 64 #[.string C, .int .i32 65533] w fun e w' => e = .returned (.int .i64 (-1)) ∧ Below w.heap.size w w' := by
  have HA : Aside (AsciiSet C) := hA
  clear hA
  go_enter Tryd.func64, Tryd.ntmps64
  go_wp2
  go_loopg [5, 6] C.size (fun g _ _ wx => ∃ i : Nat, i + g = C.size ∧ wx = w.iter C i)
  case atStart => exact ⟨0, by omega, rfl⟩
  case round =>
    obtain ⟨i, hig, rfl⟩ := hrel
    cases gk with
    | zero =>
      obtain rfl : i = C.size := by omega
      have hnx := fun ty => run_next_end (P := Tryd.prog) w C C.size ty (by omega)
      go_wp2
      go_ret
      exact ⟨rfl, (Below.refl _ _).alloc (Nat.le_refl _) _⟩
    | succ g =>
      have hlt : i < C.size := by omega
      have hnx := fun ty => run_next_ascii (P := Tryd.prog) w C i ty hlt (set_get HA.out i hlt)
      obtain ⟨z, hz⟩ : ∃ z : Int, ((C[i]'hlt).toNat : Int) = z := ⟨_, rfl⟩
      have hz2 : z < 128 := by have := set_get HA.out i hlt; omega
      rw [hz] at hnx
      clear hz
      have hne : (z == (65533 : Int)) = false := beq_eq_false_iff_ne.2 (by omega)
      have hne2 : decide (z = (65533 : Int)) = false := decide_eq_false (by omega)
      go_wp2
      go_roundg g
      case measure => omega
      case rel => exact ⟨i + 1, by omega, rfl⟩
set_option maxHeartbeats 2000000 in
set_option maxRecDepth 1000000 in
theorem indexRune_far {C : ByteArray} (hA : AsciiSet C) (r : Int) (w : World) (h0 : 128 ≤ r) (h1 : r ≤ 2147483647) (h2 : r ≠ 65533) :
    Calls Tryd.prog 64 #[.string C, .int .i32 r] w fun e w' => e = .returned (.int .i64 (-1)) ∧ Below w.heap.size w w' := by
  obtain ⟨l, hl, l1, l2, l3⟩ := encode_hi r h0
  obtain ⟨E, hE⟩ : ∃ E, Utf8.encode r = E := ⟨_, rfl⟩
  rw [hE] at hl
  have hsz : E.size = l.length := by rw [← hl]; exact Lib.size_eq E
  have d0 : decide ((0 : Int) ≤ r) = true := decide_eq_true (by omega)
  have d1 : decide (r < (128 : Int)) = false := decide_eq_false (by omega)
  have d2 : (r == (65533 : Int)) = false := beq_eq_false_iff_ne.2 h2
  obtain ⟨b, hb⟩ : ∃ b : UInt8, l.getD (l.length - 1) 0 = b := ⟨_, rfl⟩
  rw [hb] at l3
  have hc0 : (l.length : Int) - 1 = ((l.length - 1 : Nat) : Int) := by omega
  have hix : ∀ w, (Instr.index 9 (.string E) (.int .i64 ((l.length - 1 : Nat) : Int))).run Tryd.prog w = .ok (.int .u8 (b.toNat : Int)) w := by
    intro w
    have hlt : l.length - 1 < E.size := by omega
    have hget : E[l.length - 1] = b := by
      have h := Lib.data_getElem? E (l.length - 1) hlt
      rw [hl] at h
      rw [← hb, List.getD_eq_getElem?_getD, h]; rfl
    rw [run_index_string w 9 E .i64 _ Tryd.underlying9]
    have hw1 : (0 : Int) ≤ ((l.length - 1 : Nat) : Int) := by omega
    simp [hw1, hlt, hget]
  have hsx : l.length - 1 < C.size → ∃ c : Int, c < 128 ∧ ∀ w, (Instr.index 9 (.string C) (.int .i64 ((l.length - 1 : Nat) : Int))).run Tryd.prog w = .ok (.int .u8 c) w := by
    generalize l.length - 1 = n
    intro h
    refine ⟨((C[n]'h).toNat : Int), by have := set_get hA n h; omega, fun w => ?_⟩
    rw [run_index_string w 9 C .i64 _ Tryd.underlying9]
    have hw1 : (0 : Int) ≤ (n : Int) := by omega
    simp [hw1, h]
  have HA : Aside (AsciiSet C) := hA
  clear hA
  have hcv : ∀ w, (convert 21 9 (.int .i32 r)).run Tryd.prog w = .ok (.string E) w := by
    intro w; rw [run_convert_int_string w _ _ .i32 r (by kernel_rfl) Tryd.underlying9, hE]
  cases hv : Lib.validRune r with
  | false =>
    go_enter Tryd.func64, Tryd.ntmps64
    go_wp2_with (at_builtin; refine stopAt ?_)
    refine (Tryd.utf8_ValidRune _ _).mono ?_
    rintro e w' ⟨rfl, rfl⟩
    rw [hv]
    go_wp2
    go_ret
    exact ⟨rfl, Below.refl _ _⟩
  | true =>
    go_enter Tryd.func64, Tryd.ntmps64
    go_wp2_with (at_builtin; refine stopAt ?_)
    refine (Tryd.utf8_ValidRune _ _).mono ?_
    rintro e w' ⟨rfl, rfl⟩
    rw [hv]
    go_wp2
    apply wp_scope_straight
    go_wp2
    obtain ⟨n, hn⟩ : ∃ n, l.length - 1 = n := ⟨_, rfl⟩
    rw [hn] at hix hsx
    rw [hn]
    have hn4 : n < 4 := by omega
    clear hl hsz hcv hc0 d0 d1 d2 hE hb
    go_loopw [9] (fun i wr => i = .int .i64 (n : Int) ∧ wr = w') (fun _ _ => 0)
    case atStart => exact ⟨rfl, rfl⟩
    case round =>
      obtain ⟨rfl, rfl⟩ := hrel
      by_cases h3 : n < C.size
      · have d3 : decide ((n : Int) < (C.size : Int)) = true := decide_eq_true (by omega)
        obtain ⟨c, hcl, hcx⟩ := hsx h3
        have hne : (c != (b.toNat : Int)) = true := by simp; omega
        have hib := ibS HA.out n b l3
        have hw1 : IntKind.i64.wrap ((n : Int) + 1) = (n : Int) + 1 := IntWalk.i64_in _ (by omega)
        have hn0 : (0 : Int) ≤ (n : Int) + 1 := by omega
        have hn1 : ((n : Int) + 1).toNat = n + 1 := by omega
        have hn2 : (n : Int) + 1 ≤ (C.size : Int) := by omega
        have hsl : ∀ w, (Instr.slice 9 (.string C) (some (.int .i64 ((n : Int) + 1))) none none).run Tryd.prog w = .ok (.string (C.extract (n + 1) C.size)) w := by
          intro w; rw [run_slice_string_l w _ _ Tryd.underlying9 .i64 _ hn0 hn2, hn1]
        go_wp2
        apply wp_scope_straight
        go_wp2
        go_quiet (fail)
        go_wp2
        go_quiet (exact (Tryd.strings_IndexByte _ _ _).mono fun e w' ⟨h1, h2⟩ => ⟨h1, _, h2⟩)
        go_wp2
        repeat (first | rw [Exit.noGoto_ret] | rw [show ∀ (k : Nat) (Q : Exit → Act → World → Prop), Exit.inBlock k Q .ret = Q .ret from fun _ _ => rfl])
        simp +zetaDelta only [Exit.noGoto_ret, Exit.inBlock, Exit.then]
        go_ret
        exact ⟨rfl, belowN (Below.refl _ _) _⟩
      · have d3 : decide ((n : Int) < (C.size : Int)) = false := decide_eq_false (by omega)
        go_wp2
        simp only [Exit.noGoto_ret]
        go_ret
        exact ⟨rfl, Below.refl _ _⟩
theorem indexRune_hi {C : ByteArray} (hA : AsciiSet C) (r : Int) (w : World) (h0 : 128 ≤ r) (h1 : r ≤ 2147483647) :
    Calls Tryd.prog 64 #[.string C, .int .i32 r] w fun e w' => e = .returned (.int .i64 (-1)) ∧ Below w.heap.size w w' := by
  by_cases h2 : r = 65533
  · subst h2; exact indexRune_err hA w
  · exact indexRune_far hA r w h0 h1 h2
theorem decode_span (s : ByteArray) (pos : Nat) (h : pos < s.size) (ha : 128 ≤ (s[pos]'h).toNat) : ∀ k, k < (Utf8.decode s pos).2 → pos + k < s.size ∧ 128 ≤ (s.get! (pos + k)).toNat := by
  have h0 : pos + 0 < s.size ∧ 128 ≤ (s.get! (pos + 0)).toNat := ⟨h, by rw [get_at s pos h]; exact ha⟩
  have hc : ∀ k, (decide (pos + k < s.size) && (s.get! (pos + k)).toNat / 64 == 2) = true → pos + k < s.size ∧ 128 ≤ (s.get! (pos + k)).toNat := by
    intro k hk
    simp only [Bool.and_eq_true, decide_eq_true_eq, beq_iff_eq] at hk
    exact ⟨hk.1, by omega⟩
  have hn : ¬ (s[pos]'h).toNat < 128 := by omega
  have key : ∀ n, n = (Utf8.decode s pos).2 → ∀ k, k < n → pos + k < s.size ∧ 128 ≤ (s.get! (pos + k)).toNat := by
    intro n
    simp only [Utf8.decode, get_at s pos h, hn, if_false]
    repeat' split
    all_goals (
      rintro rfl k hk
      simp only [Bool.and_eq_true] at *
      match k, hk with
      | 0, _ => exact h0
      | 1, _ => first | omega | exact hc 1 (by simp_all)
      | 2, _ => first | omega | exact hc 2 (by simp_all)
      | 3, _ => first | omega | exact hc 3 (by simp_all)
      | k + 4, _ => omega)
  exact key _ rfl
theorem getB (s : ByteArray) (j : Nat) (h : j < s.size) : s.data.toList[j]? = some (s.get! j) := by
  rw [Lib.data_getElem? s j h]
  congr 1
  have := get_at s j h
  rw [Nat.add_zero] at this
  exact this.symm
theorem run_next_at (wx : World) (k : Nat) (s : ByteArray) (pos : Nat) (ty : TypeId) (hk : wx.heap[k]? = some (.stringIter s pos)) (h : pos < s.size) :
    (Instr.next (.pointer (some ⟨k, 0, none⟩)) true ty).run Tryd.prog wx =
      .ok (.tuple #[.bool true, .int .i64 pos, .int .i32 (Utf8.decode s pos).1]) { wx with heap := wx.heap.setIfInBounds k (.stringIter s (pos + (Utf8.decode s pos).2)) } := by
  simp only [Instr.next, getObj, setObj, Sem.run_bind, Sem.run, hk, Result.andThen, h, if_true]
  simp [goInt]
theorem run_next_stop (wx : World) (k : Nat) (s : ByteArray) (pos : Nat) (ty : TypeId) (hk : wx.heap[k]? = some (.stringIter s pos)) (h : ¬ pos < s.size) :
    (Instr.next (.pointer (some ⟨k, 0, none⟩)) true ty).run Tryd.prog wx = .ok (.tuple #[.bool false]) wx := by
  simp [Instr.next, getObj, Sem.run, hk, h]
theorem below_iter {w wx : World} {k : Nat} {o : Obj} (h : Below w.heap.size w wx) (hk : w.heap.size ≤ k) : Below w.heap.size w { wx with heap := wx.heap.setIfInBounds k o } :=
  ⟨h.os, h.tape, h.output, by simpa using h.size, fun j hj => by rw [← h.block j hj]; simp [Array.getElem?_setIfInBounds, show k ≠ j by omega]⟩
set_option maxHeartbeats 8000000 in
set_option maxRecDepth 1000000 in
theorem indexAny_short {C : ByteArray} (hA : AsciiSet C) (s : ByteArray) (w : World) (h8 : s.size ≤ 8) :
    Calls Tryd.prog 50 #[.string s, .string C] w fun e w' => e = .returned (.int .i64 (Lib.indexAny s.data.toList C.data.toList)) ∧ Below w.heap.size w w' := by
  have htwo := hA.two
  have hemp : C.toList.isEmpty = false := by
    rw [Lib.toList_data]
    cases h : C.data.toList with
    | nil => have := Lib.size_eq C; rw [h, List.length_nil] at this; omega
    | cons => rfl
  have hn1 : ((C.size : Int) == 1) = false := by
    rw [beq_eq_false_iff_ne]
    intro h
    have h : (C.size : Int) = 1 := h
    omega
  have HA : Aside (AsciiSet C) := hA
  clear hA htwo
  have h8z : decide ((8 : Int) < (s.size : Int)) = false := decide_eq_false (by omega)
  go_enter Tryd.func50, Tryd.ntmps50
  go_wp2_with (at_builtin; refine stopAt ?_)
  refine (Tryd.strings_shouldUseASCIISet _ _).mono ?_
  rintro e w' ⟨rfl, rfl⟩
  rw [h8z]
  go_wp2
  have hlen : s.data.toList.length = s.size := (Lib.size_eq s).symm
  go_loopg [9, 10] s.size (fun g _ _ wx => ∃ p : Nat, p + g = s.size ∧ Below w'.heap.size w' wx ∧ wx.heap[w'.heap.size]? = some (.stringIter s p) ∧ Lib.NoAny s.data.toList C.data.toList p)
  case atStart => exact ⟨0, by omega, (Below.refl _ _).alloc (Nat.le_refl _) _, World.iter_heap _ _ _, Lib.NoAny.zero _ _⟩
  case round =>
    obtain ⟨p, hps, hbel, hit, hno⟩ := hrel
    have HN : Aside (Lib.NoAny s.data.toList C.data.toList p) := hno
    have HB : Aside (Below w'.heap.size w' wr) := hbel
    clear hno hbel
    have hlb : w'.heap.size < wr.heap.size := (Array.getElem?_eq_some_iff.1 hit).1
    by_cases hlt : p < s.size
    · have hnx := fun ty => run_next_at wr w'.heap.size s p ty hit hlt
      obtain ⟨x, hx⟩ : ∃ x : UInt8, s[p]'hlt = x := ⟨_, rfl⟩
      have hxl : s.data.toList[p]? = some x := by rw [← hx]; exact Lib.data_getElem? s p hlt
      by_cases hx128 : x.toNat < 128
      · have hd := decode_ascii s p hlt (by rw [hx]; exact hx128)
        rw [hx] at hd
        rw [hd] at hnx
        obtain ⟨wn, hwn⟩ : ∃ wn : World, { wr with heap := wr.heap.setIfInBounds w'.heap.size (.stringIter s (p + 1)) } = wn := ⟨_, rfl⟩
        have Hn : Aside (Below w'.heap.size w' wn ∧ wn.heap[w'.heap.size]? = some (.stringIter s (p + 1))) := by
          rw [← hwn]; exact ⟨below_iter HB.out (Nat.le_refl _), by simp [hlb]⟩
        simp only [hwn] at hnx
        have hcon := Lib.contains_iff_indexByte C.data.toList x
        have hback : ((x.toNat : Int)).toNat.toUInt8 = x := by simp
        have Hx : Aside (s.data.toList[p]? = some x) := hxl
        clear hxl hx hd
        cases hin : C.data.toList.contains x with
        | false =>
          rw [hin] at hcon
          have hlt0 : decide ((0 : Int) ≤ Lib.indexByte C.data.toList x) = false := hcon.symm
          clear hcon
          go_wp2_with (at_builtin; refine stopAt ?_)
          refine (Tryd.strings_IndexRune_ascii _ _ _ (by omega) (by omega)).mono ?_
          rintro e w3 ⟨rfl, rfl⟩
          rw [hback]
          go_wp2
          obtain ⟨g, rfl⟩ : ∃ g, gk = g + 1 := ⟨gk - 1, by omega⟩
          go_roundg g
          case measure => omega
          case rel => exact ⟨p + 1, by omega, Hn.out.1, Hn.out.2, HN.out.succ Hx.out hin⟩
        | true =>
          rw [hin] at hcon
          have hlt0 : decide ((0 : Int) ≤ Lib.indexByte C.data.toList x) = true := hcon.symm
          clear hcon
          go_wp2_with (at_builtin; refine stopAt ?_)
          refine (Tryd.strings_IndexRune_ascii _ _ _ (by omega) (by omega)).mono ?_
          rintro e w3 ⟨rfl, rfl⟩
          rw [hback]
          go_wp2
          go_ret
          exact ⟨by rw [Lib.indexAny_hit HN.out Hx.out hin]; rfl, Hn.out.1⟩
      · have hd := decode_high s p hlt (by rw [hx]; omega)
        have hsp := decode_span s p hlt (by rw [hx]; omega)
        have hle := decode_le s p
        obtain ⟨⟨c, n⟩, hcn⟩ : ∃ cn, Utf8.decode s p = cn := ⟨_, rfl⟩
        rw [hcn] at hnx hd hsp hle
        simp only at hnx hd hsp hle
        obtain ⟨wn, hwn⟩ : ∃ wn : World, { wr with heap := wr.heap.setIfInBounds w'.heap.size (.stringIter s (p + n)) } = wn := ⟨_, rfl⟩
        have Hn : Aside (Below w'.heap.size w' wn ∧ wn.heap[w'.heap.size]? = some (.stringIter s (p + n))) := by
          rw [← hwn]; exact ⟨below_iter HB.out (Nat.le_refl _), by simp [hlb]⟩
        simp only [hwn] at hnx
        have HS : Aside (∀ k, k < n → p + k < s.size ∧ 128 ≤ (s.get! (p + k)).toNat) := hsp
        clear hsp hcn hxl hx
        go_wp2_with (at_builtin; refine stopAt ?_)
        refine (indexRune_hi HA.out (c : Int) _ (by omega) (by omega)).mono ?_
        rintro e w3 ⟨rfl, hb3⟩
        have hp : p + n ≤ s.size := by have := (HS.out (n - 1) (by omega)).1; omega
        have Hn3 : Aside (Below w'.heap.size w' w3 ∧ w3.heap[w'.heap.size]? = some (.stringIter s (p + n))) := by
          obtain ⟨h1, h2⟩ := Hn.out
          have h3 : w'.heap.size < wn.heap.size := (Array.getElem?_eq_some_iff.1 h2).1
          exact ⟨h1.trans ⟨hb3.os, hb3.tape, hb3.output, hb3.size, fun k hk => hb3.block k (by omega)⟩, by rw [hb3.block _ h3]; exact h2⟩
        clear hb3
        go_wp2
        obtain ⟨g, hg⟩ : ∃ g, p + n + g = s.size := ⟨s.size - (p + n), by omega⟩
        go_roundg g
        case measure => omega
        case rel =>
          refine ⟨p + n, by omega, Hn3.out.1, Hn3.out.2, fun j b hj hb => ?_⟩
          rcases Nat.lt_or_ge j p with h | h
          · exact HN.out j b h hb
          · obtain ⟨k, rfl⟩ : ∃ k, j = p + k := ⟨j - p, by omega⟩
            obtain ⟨k1, k2⟩ := HS.out k (by omega)
            rw [getB s _ k1] at hb
            injection hb with hb
            subst hb
            generalize s.get! (p + k) = b at *
            exact set_hi HA.out b k2
    · have hnx := fun ty => run_next_stop wr w'.heap.size s p ty hit hlt
      obtain rfl : p = s.size := by omega
      go_wp2
      go_ret
      exact ⟨by rw [Lib.indexAny_none (by rw [← Lib.size_eq]; exact HN.out)]; rfl, HB.out⟩
end Go.Proofs.YtfabdnpeohpgnaaDoor
namespace Go.Proofs.YtfabdnpeohpgnaaDoor
set_option linter.all false
open Go.RowKit
open Go.Lib (index hasPrefix trimPrefix cut indexAny)
def idxAnyS : Spec := fun xs hp => match xs, hp with
  | [.str s, .str p], [] => some ⟨.int .i64 (indexAny s p), [], asciiB p = true ∧ s.length < 4294967281⟩
  | _, _ => none
theorem idxAny_ok : FnOk Tryd.prog 50 idxAnyS := by
  refine fnok_of_calls fun xs0 hp r hs hp' => ?_
  unfold idxAnyS at hs
  split at hs
  · rename_i s p
    injection hs with hs; subst hs
    obtain ⟨p1, p2⟩ := hp'
    have hA := asciiSet_of p1
    refine ⟨rfl, rfl, fun w S ρ args hS ha => ?_⟩
    obtain ⟨v, vs, rfl, hv, hr⟩ := ha.get _ _ rfl
    obtain ⟨u, us, rfl, hu, hr⟩ := hr.get _ _ rfl
    obtain rfl := hr.none
    rw [hv.str, hu.str]
    have hs0 : (⟨s.toArray⟩ : ByteArray).size = s.length := by rw [Lib.size_eq]
    have hc0 : (⟨p.toArray⟩ : ByteArray).size = p.length := by rw [Lib.size_eq]
    have h2 := hA.two
    have h3 := hA.few
    by_cases h8 : s.length ≤ 8
    · refine (indexAny_short hA ⟨s.toArray⟩ w (by rw [hs0]; exact h8)).mono ?_
      rintro e w' ⟨rfl, hb⟩
      exact ⟨_, rfl, hb, fun _ _ _ => Vl.int' _ _⟩
    · refine (Tryd.strings_IndexAny_long (fun w => by kernel_rfl) ⟨s.toArray⟩ ⟨p.toArray⟩ w (by omega) (by rw [hs0]; omega) (by rw [hs0]; exact p2) (by omega) (fun j b hb => hA.low b (List.mem_of_getElem? hb))).mono ?_
      rintro e w' ⟨rfl, rfl⟩
      exact ⟨_, rfl, ((Below.refl _ _).alloc (Nat.le_refl _) _).alloc (by simp) _, fun _ _ _ => Vl.int' _ _⟩
  · cases hs
end Go.Proofs.YtfabdnpeohpgnaaDoor
namespace Go.Proofs.YtfabdnpeohpgnaaDoor
set_option linter.all false
open Go.RowKit
open Go.Lib (index hasPrefix trimPrefix cut indexAny)
def idxAny3S : Spec := fun xs hp => match xs, hp with
  | [.str s, .str p], [] => some ⟨.int .i64 (indexAny s p), [], p = [0, 10, 13] ∧ s.length < 4294967281⟩
  | _, _ => none
theorem idxAny3_ok : FnOk Tryd.prog 50 idxAny3S := by
  refine idxAny_ok.imp fun xs hp r hs hp' => ?_
  unfold idxAny3S at hs
  split at hs
  · injection hs with hs; subst hs
    obtain ⟨rfl, p2⟩ := hp'
    exact ⟨_, rfl, ⟨by decide, p2⟩, rfl, rfl⟩
  · cases hs
end Go.Proofs.YtfabdnpeohpgnaaDoor
