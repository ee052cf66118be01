import Derived.Test.YtlkaaoekbmegkaaGreatDoorQFBld
import Derived.Test.YtlkaaoekbmegkaaGreatDoorQFRCom5
import Derived.Test.YtlkaaoekbmegkaaGreatDoorQLComCode
import Derived.Test.YtlkaaoekbmegkaaGreatDoorQAMS
import Derived.ChangeSame
import Derived.ChangeMaps5
import Derived.OpenShut
import Derived.Lib.SmallJoins
/- commit.Print as a contract. -/
namespace Go.Proofs.YtlkaaoekbmegkaaGreatDoor
set_option linter.all false
open Go.RowKit
open Go.Lib (index hasPrefix cut indexAny itoa)
def phiPrn : Phi := phiL [(15, [], textS), (30, [], cfeS), (34, [], hexS), (33, [], bwsS), (35, [], replS), (36, [], bstrS)]
theorem phiPrn_ok : PhiOk Tryz.prog phiPrn := phi_cons ctext_ok (by kernel_rfl) (phi_cons cfe_ok (by kernel_rfl) (phi_cons hex_ok (by kernel_rfl) (phi_cons bws_ok (by kernel_rfl) (phi_cons repl_ok (by kernel_rfl) (phi_cons bstr_ok (by kernel_rfl) phi_nil)))))
theorem phiPrn_1 : phiPrn 15 = some ([], textS) := rfl
theorem phiPrn_2 : phiPrn 30 = some ([], cfeS) := rfl
theorem phiPrn_3 : phiPrn 34 = some ([], hexS) := rfl
theorem phiPrn_4 : phiPrn 33 = some ([], bwsS) := rfl
theorem phiPrn_5 : phiPrn 35 = some ([], replS) := rfl
theorem phiPrn_6 : phiPrn 36 = some ([], bstrS) := rfl
set_option maxHeartbeats 4000000 in
theorem prn_ok : FnOk Tryz.prog 9 prnS := by
  refine fn_slim2 Tryz.func9 s_cprn phiPrn_ok ?_
  intro xs hp r hs hp'
  unfold prnS at hs
  split at hs
  · rename_i t kq ps an am at' az cn cm ct cz ke es m
    obtain ⟨q1, q2, q3, q4, q5, q6⟩ := prnR_pre hs hp'
    generalize unV t = t at *
    subst q1
    generalize ps.map unId = ps at *
    subst q2
    generalize es.map unEx = es at *
    subst q3
    obtain ⟨z1, z2, z3, z0, z4, z5, z6, z7⟩ := q6
    simp only at z0 z1 z2 z3 z4 z5 z6 z7
    refine ⟨len_le (by kernel_rfl), ?_⟩
    have hk : ∀ x ∈ es, x.1.length < 4294967281 := fun x hx => by have := (z5 x hx).1; omega
    simp only [c_cprn, phiPrn_1, textS, textR, go_sem, Nat.reduceDiv, Nat.reduceMod, ↓reduceIte, Nat.reduceEqDiff, Nat.reduceBEq, Nat.reduceSub, Nat.reduceLT, Nat.reduceAdd, Nat.reduceLeDiff, reduceCtorEq, Int.reduceEq, Int.reduceNe, Int.reduceLT, Int.reduceLE, Int.reduceToNat]
    refine ⟨z6, z7, ?_⟩
    generalize ha : textW ⟨an, am, at', az⟩ = a at *
    generalize hb : textW ⟨cn, cm, ct, cz⟩ = b at *
    cases h1 : rightW ⟨an, am, at', az⟩ with
    | false =>
      rw [prnR_f _ (rightC_a h1)] at hs
      injection hs with hs; subst hs
      simp only [k_cprn_3, r_cprn, if_true, if_false, go_sem, Nat.reduceDiv, Nat.reduceMod, ↓reduceIte, Nat.reduceEqDiff, Nat.reduceBEq, Nat.reduceSub, Nat.reduceLT, Nat.reduceAdd, Nat.reduceLeDiff, reduceCtorEq, Int.reduceEq, Int.reduceNe, Int.reduceLT, Int.reduceLE, Int.reduceToNat]
    | true =>
      cases h2 : rightW ⟨cn, cm, ct, cz⟩ with
      | false =>
        rw [prnR_f _ (rightC_b h2)] at hs
        injection hs with hs; subst hs
        simp only [k_cprn_3, r_cprn, if_true, if_false, go_sem, Nat.reduceDiv, Nat.reduceMod, ↓reduceIte, Nat.reduceEqDiff, Nat.reduceBEq, Nat.reduceSub, Nat.reduceLT, Nat.reduceAdd, Nat.reduceLeDiff, reduceCtorEq, Int.reduceEq, Int.reduceNe, Int.reduceLT, Int.reduceLE, Int.reduceToNat]
      | true =>
        cases h3 : es.any badE with
        | true =>
          rw [prnR_f _ (rightC_e h3)] at hs
          injection hs with hs; subst hs
          simp only [k_cprn_3, r_cprn, phiPrn_2, cfeS, unEx_map, h3, if_true, if_false, go_sem, Nat.reduceDiv, Nat.reduceMod, ↓reduceIte, Nat.reduceEqDiff, Nat.reduceBEq, Nat.reduceSub, Nat.reduceLT, Nat.reduceAdd, Nat.reduceLeDiff, reduceCtorEq, Int.reduceEq, Int.reduceNe, Int.reduceLT, Int.reduceLE, Int.reduceToNat]
          exact ⟨q5, z4, hk⟩
        | false =>
          rw [prnR_t _ (rightC_t h1 h2 h3)] at hs
          injection hs with hs; subst hs
          unfold bodyC at z1
          simp only [ha, hb] at z1
          unfold bodyC
          simp only [ha, hb]
          simp only [k_cprn_3, phiPrn_2, cfeS, unEx_map, h3, if_true, if_false, go_sem, Nat.reduceDiv, Nat.reduceMod, ↓reduceIte, Nat.reduceEqDiff, Nat.reduceBEq, Nat.reduceSub, Nat.reduceLT, Nat.reduceAdd, Nat.reduceLeDiff, reduceCtorEq, Int.reduceEq, Int.reduceNe, Int.reduceLT, Int.reduceLE, Int.reduceToNat]
          refine ⟨⟨q5, z4, hk⟩, ?_⟩
          simp only [k_cprn_4, phiPrn_3, phiPrn_4, hexS, bwsS, selfX, unV_U, go_sem, Nat.reduceDiv, Nat.reduceMod, ↓reduceIte, Nat.reduceEqDiff, Nat.reduceBEq, Nat.reduceSub, Nat.reduceLT, Nat.reduceAdd, Nat.reduceLeDiff, reduceCtorEq, Int.reduceEq, Int.reduceNe, Int.reduceLT, Int.reduceLE, Int.reduceToNat]
          have hh := hexL_length t
          have htot : (printC t ps a b es m).length ≤ 1000000000 := z1
          unfold printC at htot
          simp only [List.length_append] at htot
          have hhc : (headC t).length = 6 + (hexL t).length := by simp only [headC, List.length_append, List.length_cons, List.length_nil]; omega
          refine ⟨z2, by (first | omega | (simp only [lenOk, bytesOk, inI, IntKind.bits, List.length_append, Bs_len, List.length_cons, List.length_nil, List.length_map, List.length_take, List.length_drop, List.length_replicate]; omega)), by (first | omega | (simp only [lenOk, bytesOk, inI, IntKind.bits, List.length_append, Bs_len, List.length_cons, List.length_nil, List.length_map, List.length_take, List.length_drop, List.length_replicate]; omega)), by (first | omega | (simp only [lenOk, bytesOk, inI, IntKind.bits, List.length_append, Bs_len, List.length_cons, List.length_nil, List.length_map, List.length_take, List.length_drop, List.length_replicate]; omega)), ?_⟩
          refine loop2P [] [1, 4, 6, 8, 43, 44, 45] [0, 1, 2] (fun q : Nat × List UInt8 => ⟨[(1, .ref 0 0 0), (4, .str a), (6, .str b), (8, .ref 1 0 0), (43, .sl kq (ps.map idAV)), (44, .int .i64 (ps.length : Int)), (45, .int .i64 (q.1 : Int))],
            [.cells 34 [(20, .blob (t.map U)), (1, .sl kq (ps.map idAV)), (1, .str an), (1, .str am), (1, .int .i64 at'), (1, .str az), (1, .str cn), (1, .str cm), (1, .int .i64 ct), (1, .str cz), (1, .sl ke (es.map exV)), (1, .str m)], .cells 80 [(1, .ref 1 0 0), (1, .own 2 q.1)], .row 5 1 q.1 (Bs q.2)]⟩)
            (fun q => q.1 ≤ ps.length ∧ q.2 = headC t ++ (ps.take q.1).flatMap parL) (fun q => ps.length - q.1) (0, headC t) rfl ⟨Nat.zero_le _, by simp⟩ ⟨rfl, by rfl⟩ (fun q hq R hR => ?_)
          obtain ⟨i, acc⟩ := q
          simp only at hq
          obtain ⟨hi, rfl⟩ := hq
          simp only at hi hR ⊢
          have hle := flatMap_take_le parL ps i
          by_cases hil : i < ps.length
          · have c1 : decide ((i : Int) < (ps.length : Int)) = true := decide_eq_true (by omega)
            have hk : kq = 20 := q4.resolve_right (by intro h; have := congrArg List.length h; simp at this; rw [this] at hil; simp at hil)
            subst hk
            have hget := getD_map idAV ps [] (.blob (List.replicate 20 (.int .u8 0))) hil
            have hga : ps.getD i [] = ps[i] := by simp [List.getD_eq_getElem?_getD, List.getElem?_eq_getElem hil]
            have hlen := z3 ps[i] (List.getElem_mem _)
            have hhx := hexL_length ps[i]
            have hle2 := flatMap_take_le parL ps (i + 1)
            rw [← flatMap_take parL ps hil, List.length_append] at hle2
            have hpl : (parL ps[i]).length = 8 + (hexL ps[i]).length := by simp only [parL, List.length_append, List.length_cons, List.length_nil]; omega
            simp only [b_cprn_0, phiPrn_3, phiPrn_4, hexS, bwsS, selfX, unV_U, c1, hget, hga, idAV, Int.toNat_natCast, List.length_map, hlen, Bs_app, go_sem, Nat.reduceDiv, Nat.reduceMod, ↓reduceIte, Nat.reduceEqDiff, Nat.reduceBEq, Nat.reduceSub, Nat.reduceLT, Nat.reduceAdd, Nat.reduceLeDiff, reduceCtorEq, Int.reduceEq, Int.reduceNe, Int.reduceLT, Int.reduceLE, Int.reduceToNat]
            refine ⟨⟨by omega, by omega⟩, by (first | omega | (simp only [lenOk, bytesOk, inI, IntKind.bits, List.length_append, Bs_len, List.length_cons, List.length_nil, List.length_map, List.length_take, List.length_drop, List.length_replicate]; omega)), by (first | omega | (simp only [lenOk, bytesOk, inI, IntKind.bits, List.length_append, Bs_len, List.length_cons, List.length_nil, List.length_map, List.length_take, List.length_drop, List.length_replicate]; omega)), by (first | omega | (simp only [lenOk, bytesOk, inI, IntKind.bits, List.length_append, Bs_len, List.length_cons, List.length_nil, List.length_map, List.length_take, List.length_drop, List.length_replicate]; omega)), by (first | omega | (simp only [lenOk, bytesOk, inI, IntKind.bits, List.length_append, Bs_len, List.length_cons, List.length_nil, List.length_map, List.length_take, List.length_drop, List.length_replicate]; omega)), hR _ (i + 1, headC t ++ (ps.take (i + 1)).flatMap parL) ⟨by simp only; omega, rfl⟩ (by simp only; omega) ?_⟩
            simp only
            rw [← flatMap_take parL ps hil, ← List.append_assoc]
            rfl
          · have c1 : decide ((i : Int) < (ps.length : Int)) = false := decide_eq_false (by omega)
            obtain rfl : i = ps.length := by omega
            rw [List.take_length]
            simp only [b_cprn_0, t_cprn_1, phiPrn_4, bwsS, selfX, c1, Bs_app, go_sem, Nat.reduceDiv, Nat.reduceMod, ↓reduceIte, Nat.reduceEqDiff, Nat.reduceBEq, Nat.reduceSub, Nat.reduceLT, Nat.reduceAdd, Nat.reduceLeDiff, reduceCtorEq, Int.reduceEq, Int.reduceNe, Int.reduceLT, Int.reduceLE, Int.reduceToNat]
            have hmc : (midC a b).length = 20 + a.length + b.length - 1 := by simp only [midC, List.length_append, List.length_cons, List.length_nil]; omega
            have hmt : (midC a b).length ≤ 1000000000 := by omega
            refine ⟨by (first | omega | (simp only [lenOk, bytesOk, inI, IntKind.bits, List.length_append, Bs_len, List.length_cons, List.length_nil, List.length_map, List.length_take, List.length_drop, List.length_replicate]; omega)), by (first | omega | (simp only [lenOk, bytesOk, inI, IntKind.bits, List.length_append, Bs_len, List.length_cons, List.length_nil, List.length_map, List.length_take, List.length_drop, List.length_replicate]; omega)), by (first | omega | (simp only [lenOk, bytesOk, inI, IntKind.bits, List.length_append, Bs_len, List.length_cons, List.length_nil, List.length_map, List.length_take, List.length_drop, List.length_replicate]; omega)), by (first | omega | (simp only [lenOk, bytesOk, inI, IntKind.bits, List.length_append, Bs_len, List.length_cons, List.length_nil, List.length_map, List.length_take, List.length_drop, List.length_replicate]; omega)), by (first | omega | (simp only [lenOk, bytesOk, inI, IntKind.bits, List.length_append, Bs_len, List.length_cons, List.length_nil, List.length_map, List.length_take, List.length_drop, List.length_replicate]; omega)), ?_⟩
            clear hR R
            refine loop2P [] [1, 8, 63, 64, 65] [0, 1, 2] (fun q : Nat × List UInt8 => ⟨[(1, .ref 0 0 0), (8, .ref 1 0 0), (63, .sl ke (es.map exV)), (64, .int .i64 (es.length : Int)), (65, .int .i64 (q.1 : Int))],
              [.cells 34 [(20, .blob (t.map U)), (1, .sl kq (ps.map idAV)), (1, .str an), (1, .str am), (1, .int .i64 at'), (1, .str az), (1, .str cn), (1, .str cm), (1, .int .i64 ct), (1, .str cz), (1, .sl ke (es.map exV)), (1, .str m)], .cells 80 [(1, .ref 1 0 0), (1, .own 2 (ps.length + 1 + q.1))], .row 5 1 (ps.length + 1 + q.1) (Bs q.2)]⟩)
              (fun q => q.1 ≤ es.length ∧ q.2 = headC t ++ ps.flatMap parL ++ midC a b ++ (es.take q.1).flatMap exL) (fun q => es.length - q.1) (0, headC t ++ ps.flatMap parL ++ midC a b) (by rfl) ⟨Nat.zero_le _, by simp⟩ ⟨rfl, by rfl⟩ (fun q hq R hR => ?_)
            obtain ⟨j, acc⟩ := q
            simp only at hq
            obtain ⟨hj, rfl⟩ := hq
            simp only at hj hR ⊢
            have hle := flatMap_take_le exL es j
            by_cases hjl : j < es.length
            · have c1 : decide ((j : Int) < (es.length : Int)) = true := decide_eq_true (by omega)
              have hk : ke = 2 := q5.resolve_right (by intro h; have := congrArg List.length h; simp at this; rw [this] at hjl; simp at hjl)
              subst hk
              have hget := getD_map exV es ([], []) (.agg [(1, (.str [])), (1, (.str []))]) hjl
              have hga : es.getD j ([], []) = es[j] := by simp [List.getD_eq_getElem?_getD, List.getElem?_eq_getElem hjl]
              obtain ⟨l1, l2⟩ := z5 es[j] (List.getElem_mem _)
              have hle2 := flatMap_take_le exL es (j + 1)
              rw [← flatMap_take exL es hjl, List.length_append] at hle2
              have hpl : (exL es[j]).length = es[j].1.length + (subst1 10 [10, 32] es[j].2).length + 2 := by simp only [exL, List.length_append, List.length_cons, List.length_nil]; omega
              have dn : decide (([10] : List UInt8) = [10, 32]) = false := by decide
              simp only [b_cprn_1, phiPrn_4, phiPrn_5, bwsS, replS, selfX, c1, hget, hga, exV, dn, Int.toNat_natCast, Bs_app, go_sem, Nat.reduceDiv, Nat.reduceMod, ↓reduceIte, Nat.reduceEqDiff, Nat.reduceBEq, Nat.reduceSub, Nat.reduceLT, Nat.reduceAdd, Nat.reduceLeDiff, reduceCtorEq, Int.reduceEq, Int.reduceNe, Int.reduceLT, Int.reduceLE, Int.reduceToNat]
              refine ⟨⟨by omega, by omega⟩, by (first | omega | (simp only [lenOk, bytesOk, inI, IntKind.bits, List.length_append, Bs_len, List.length_cons, List.length_nil, List.length_map, List.length_take, List.length_drop, List.length_replicate]; omega)), l2, by (first | omega | (simp only [lenOk, bytesOk, inI, IntKind.bits, List.length_append, Bs_len, List.length_cons, List.length_nil, List.length_map, List.length_take, List.length_drop, List.length_replicate]; omega)), by (first | omega | (simp only [lenOk, bytesOk, inI, IntKind.bits, List.length_append, Bs_len, List.length_cons, List.length_nil, List.length_map, List.length_take, List.length_drop, List.length_replicate]; omega)), by (first | omega | (simp only [lenOk, bytesOk, inI, IntKind.bits, List.length_append, Bs_len, List.length_cons, List.length_nil, List.length_map, List.length_take, List.length_drop, List.length_replicate]; omega)), by (first | omega | (simp only [lenOk, bytesOk, inI, IntKind.bits, List.length_append, Bs_len, List.length_cons, List.length_nil, List.length_map, List.length_take, List.length_drop, List.length_replicate]; omega)), hR _ (j + 1, headC t ++ ps.flatMap parL ++ midC a b ++ (es.take (j + 1)).flatMap exL) ⟨by simp only; omega, rfl⟩ (by simp only; omega) ?_⟩
              simp only
              rw [← flatMap_take exL es hjl, show headC t ++ ps.flatMap parL ++ midC a b ++ ((es.take j).flatMap exL ++ exL es[j]) = headC t ++ ps.flatMap parL ++ midC a b ++ (es.take j).flatMap exL ++ exL es[j] from (List.append_assoc _ _ _).symm]
              rfl
            · have c1 : decide ((j : Int) < (es.length : Int)) = false := decide_eq_false (by omega)
              obtain rfl : j = es.length := by omega
              rw [List.take_length]
              simp only [b_cprn_1, t_cprn_0, r_cprn, phiPrn_4, phiPrn_6, bwsS, bstrS, selfX, unB_Bs, c1, Bs_app, go_sem, Nat.reduceDiv, Nat.reduceMod, ↓reduceIte, Nat.reduceEqDiff, Nat.reduceBEq, Nat.reduceSub, Nat.reduceLT, Nat.reduceAdd, Nat.reduceLeDiff, reduceCtorEq, Int.reduceEq, Int.reduceNe, Int.reduceLT, Int.reduceLE, Int.reduceToNat]
              refine ⟨by (first | omega | (simp only [lenOk, bytesOk, inI, IntKind.bits, List.length_append, Bs_len, List.length_cons, List.length_nil, List.length_map, List.length_take, List.length_drop, List.length_replicate]; omega)), by (first | omega | (simp only [lenOk, bytesOk, inI, IntKind.bits, List.length_append, Bs_len, List.length_cons, List.length_nil, List.length_map, List.length_take, List.length_drop, List.length_replicate]; omega)), by (first | omega | (simp only [lenOk, bytesOk, inI, IntKind.bits, List.length_append, Bs_len, List.length_cons, List.length_nil, List.length_map, List.length_take, List.length_drop, List.length_replicate]; omega)), ?_⟩
              rfl
  · cases hs
end Go.Proofs.YtlkaaoekbmegkaaGreatDoor
/- The laws' own functions on abstract values: persons there and back, the chapter's example. -/
namespace Go.Proofs.YtlkaaoekbmegkaaGreatDoor
set_option linter.all false
open Go.RowKit
open Go.Lib (index hasPrefix cut indexAny itoa decDigits)
def cut200 (w : WhoL) : WhoL := ⟨w.name.take 200, w.mail.take 200, w.time, w.zone.take 200⟩
def lwhoS : Spec := fun xs hp => match xs, hp with
  | [.agg [(1, .str n), (1, .str m), (1, .int .i64 t), (1, .str z)]], [] => some ⟨.agg [(1, .str (n.take 200)), (1, .str (m.take 200)), (1, .int .i64 t), (1, .str (z.take 200))], [], n.length ≤ 9223372036854775807 ∧ m.length ≤ 9223372036854775807 ∧ z.length ≤ 9223372036854775807⟩
  | _, _ => none
theorem take_min {α : Type} (l : List α) (k : Nat) : l.take (min (l.length : Int) (k : Int)).toNat = l.take k := by
  rcases Nat.le_total l.length k with h | h
  · rw [List.take_of_length_le (by omega), List.take_of_length_le h]
  · rw [show (min (l.length : Int) (k : Int)).toNat = k by omega]
theorem lwho_ok : FnOk Tryz.prog 14 lwhoS := by
  refine fn_slim2 Tryz.func14 s_lwho (Φ := phiL []) phi_nil ?_
  intro xs hp r hs hp'
  unfold lwhoS at hs
  split at hs
  · injection hs with hs; subst hs
    rename_i n m t z
    obtain ⟨p1, p2, p3⟩ := hp'
    refine ⟨len_le (by kernel_rfl), ?_⟩
    have t1 := take_min n 200
    have t2 := take_min m 200
    have t3 := take_min z 200
    simp only [c_lwho, r_lwho, go_sem, Nat.reduceDiv, Nat.reduceMod, ↓reduceIte, Nat.reduceEqDiff, Nat.reduceBEq, Nat.reduceSub, Nat.reduceLT, Nat.reduceAdd, Nat.reduceLeDiff, reduceCtorEq, Int.reduceEq, Int.reduceNe, Int.reduceLT, Int.reduceLE, Int.reduceToNat]
    refine ⟨⟨by omega, by omega⟩, ⟨by omega, by omega⟩, ⟨by omega, by omega⟩, ?_⟩
    rw [← t1, ← t2, ← t3]; rfl
  · cases hs
def lwhoOfS : Spec := fun xs hp => match xs, hp with
  | [.agg [(1, .str n), (1, .str m), (1, .int .i64 t), (1, .str z)]], [] => some ⟨.agg [(1, .str n), (1, .str m), (1, .int .i64 t), (1, .str z)], [], True⟩
  | _, _ => none
theorem lwhoOf_ok : FnOk Tryz.prog 17 lwhoOfS := by
  refine fn_slim2 Tryz.func17 s_lwhoOf (Φ := phiL []) phi_nil ?_
  intro xs hp r hs hp'
  unfold lwhoOfS at hs
  split at hs
  · injection hs with hs; subst hs
    rename_i n m t z
    refine ⟨len_le (by kernel_rfl), ?_⟩
    simp only [c_lwhoOf, r_lwhoOf, go_sem, Nat.reduceDiv, Nat.reduceMod, ↓reduceIte, Nat.reduceEqDiff, Nat.reduceBEq, Nat.reduceSub, Nat.reduceLT, Nat.reduceAdd, Nat.reduceLeDiff, reduceCtorEq, Int.reduceEq, Int.reduceNe, Int.reduceLT, Int.reduceLE, Int.reduceToNat]
  · cases hs
theorem flat_B (l : List UInt8) : ∀ x, x ∈ Bs l → flatB 4 x = true := by
  intro x hx
  obtain ⟨u, _, rfl⟩ := List.mem_map.1 hx
  rfl
/-! ### The chapter's example -/
def exW : WhoL := ⟨[65], [97, 64, 98], 12, [43, 48, 48, 48, 48]⟩
def exT : List UInt8 := [65, 32, 60, 97, 64, 98, 62, 32, 49, 50, 32, 43, 48, 48, 48, 48]
theorem exW_right : rightW exW = true := by decide
theorem exW_text : textW exW = exT := by
  have e : itoa 12 = [49, 50] := by
    rw [itoa_dec (by decide), show (12 : Int).toNat = 12 from rfl, decD_big (by decide), decD_small (by decide)]; rfl
  unfold textW exW
  simp only
  rw [e]; rfl
theorem exT_person : personB exT = true ∧ personV exT = exW := by rw [← exW_text]; exact personV_text exW_right
def exC : ComL := ⟨z20L, [], exW, exW, [([107], [120, 10, 121])], [109]⟩
theorem exC_right : rightC exC = true := by decide
theorem exC_len : 40 < (bodyC exC).length ∧ (bodyC exC).length ≤ 1000 := by
  rw [bodyC_shape]
  have h1 : (textW exC.author).length = 16 := by rw [show exC.author = exW from rfl, exW_text]; rfl
  have h2 : (textW exC.committer).length = 16 := by rw [show exC.committer = exW from rfl, exW_text]; rfl
  have h3 := hexL_length exC.tree
  have h4 : exC.tree.length = 20 := rfl
  have h5 : (exC.extras.flatMap exL).length = 7 := by decide
  have h6 : exC.message.length = 1 := rfl
  have h7 : (exC.parents.flatMap parL).length = 0 := rfl
  simp only [List.length_append, List.length_cons, h1, h2, h3, h4, h5, h6, h7, treW, autW, comW, List.length_nil]
  decide
theorem exC_size : sizeOkC exC := by
  have := exC_len
  refine ⟨by omega, rfl, ?_, by decide, by decide, ?_, by decide, by decide⟩
  · intro p hp; cases hp
  · intro x hx; rw [List.mem_singleton.1 hx]; decide
theorem exC_read : parB11 (bodyC exC) = true ∧ parC11 (bodyC exC) = exC := com_body exC_right rfl (by intro p hp; cases hp)
def knownS : Spec := fun xs hp => match xs, hp with
  | [], [] => some ⟨.bool true, [], True⟩
  | _, _ => none
def exWA : List (Nat × AV) := [(1, .str [65]), (1, .str [97, 64, 98]), (1, .int .i64 12), (1, .str [43, 48, 48, 48, 48])]
theorem exP : personR exT = fun pr => some ⟨.tup [.agg exWA, .int .i64 0], [], pr⟩ := by
  funext pr
  unfold personR
  rw [exT_person.1, exT_person.2]; rfl
theorem exP2 : personR [65, 32, 60, 97, 64, 98, 62, 32, 49, 50, 32, 43, 48, 48, 48, 48] = fun pr => some ⟨.tup [.agg exWA, .int .i64 0], [], pr⟩ := exP
def exB : List UInt8 := bodyC exC
theorem exPr (pr : Prop) : prnR ⟨unV (List.replicate 20 (Value.int .u8 0)), [], ⟨[65], [97, 64, 98], 12, [43, 48, 48, 48, 48]⟩, ⟨[65], [97, 64, 98], 12, [43, 48, 48, 48, 48]⟩, [unEx (.agg [(1, .str [107]), (1, .str [120, 10, 121])])], [109]⟩ pr =
    some ⟨.tup [.own 0 0, .int .i64 0], [.row 5 1 0 (Bs exB)], pr⟩ := prnR_t (c := exC) pr exC_right
theorem exRd (pr : Prop) : parR11 (parC11 exB) (parB11 exB) pr = some ⟨.tup [.agg [(20, .blob (z20L.map U)), (1, .own 0 0), (1, .str [65]), (1, .str [97, 64, 98]), (1, .int .i64 12), (1, .str [43, 48, 48, 48, 48]), (1, .str [65]), (1, .str [97, 64, 98]), (1, .int .i64 12), (1, .str [43, 48, 48, 48, 48]), (1, .own 1 1), (1, .str [109])], .int .i64 0],
    [.row 29 20 0 [], .row 75 2 1 [.agg [(1, .str [107]), (1, .str [120, 10, 121])]]], pr⟩ := by
  unfold parR11 exB
  rw [exC_read.1, exC_read.2]; rfl
theorem exB_len : 40 < exB.length ∧ exB.length ≤ 1000 := exC_len
theorem unV_z : List.replicate 20 (Value.int .u8 0) = List.map U (unV (List.replicate 20 (Value.int .u8 0))) := rfl
set_option maxHeartbeats 2000000 in
theorem known11_ok : FnOk Tryz.prog 11 knownS := by
  refine fn_slim2 Tryz.func11 s_known11 (Φ := phiL [(19, [], personS), (9, [], prnS), (21, [], cparS)]) (phi_cons person_ok (by kernel_rfl) (phi_cons prn_ok (by kernel_rfl) (phi_cons cpar_ok (by kernel_rfl) phi_nil))) ?_
  intro xs hp r hs hp'
  unfold knownS at hs
  split at hs
  · injection hs with hs; subst hs
    refine ⟨len_le (by kernel_rfl), ?_⟩
    obtain ⟨h1, h2⟩ := exB_len
    have d1 : decide ((40 : Int) < (exB.length : Int)) = true := decide_eq_true (by omega)
    simp only [c_known11, r_known11, personS, exP2, exWA, prnS, exPr, cparS, unB_Bs, exRd, d1, go_sem, Nat.reduceDiv, Nat.reduceMod, ↓reduceIte, Nat.reduceEqDiff, Nat.reduceBEq, Nat.reduceSub, Nat.reduceLT, Nat.reduceAdd, Nat.reduceLeDiff, reduceCtorEq, Int.reduceEq, Int.reduceNe, Int.reduceLT, Int.reduceLE, Int.reduceToNat]
    refine ⟨⟨⟨unV_z, rfl, .inr trivial, .inl trivial, exC_size⟩, fun x hx => flat_B _ x hx⟩, by omega, ?_⟩
    repeat' apply And.intro
    all_goals first | omega | rfl | (intro x hx; cases hx; done) | exact fun x hx => flat_B _ x hx | (intro x hx; rw [List.mem_singleton.1 hx]; rfl) | skip
  · cases hs
end Go.Proofs.YtlkaaoekbmegkaaGreatDoor
/- An argument that is a person (text, text, number, text), opened. -/
namespace Go.Proofs.YtlkaaoekbmegkaaGreatDoor
set_option linter.all false
open Go.RowKit Go.ChangeShapes Go.WideShapes Go.ChangeAt Go.Deep
section
variable {H : Type} {enc : TypeId × Value → H} {P : Program} {w : World} {base : Nat} {spare : Nat → Bool} {held : Bool}
def whoC (n m : List UInt8) (i : Int) (z : List UInt8) : List Value := [.string ⟨n.toArray⟩, .string ⟨m.toArray⟩, .int .i64 i, .string ⟨z.toArray⟩]
theorem open_who {r : Reach} {b0 : Nat} {t : TypeId} {f0 f1 f2 f3 : Field} {v : Value} {d : DataW H} {ps : List MemPlace} (ht : P.underlying t = some (.struct #[f0, f1, f2, f3])) (o0 : f0.offset = 0) (o1 : f1.offset = 1) (o2 : f2.offset = 2) (o3 : f3.offset = 3)
    (t0 : P.underlying f0.type = some .string) (t1 : P.underlying f1.type = some .string) (t2 : P.underlying f2.type = some (.int .i64)) (t3 : P.underlying f3.type = some .string)
    (c0 : P.cellsOf f0.type = 1) (c1 : P.cellsOf f1.type = 1) (c2 : P.cellsOf f2.type = 1) (c3 : P.cellsOf f3.type = 1) (hct : P.cellsOf t = 4)
    (hval : Value.okWide P w r b0 t v) (hd : DataW.Trod enc P w base spare held t v d ps) : ∃ (n m : List UInt8) (i : Int) (z : List UInt8), v = .agg (whoC n m i z).toArray ∧ n.length ≤ maxLen ∧ m.length ≤ maxLen ∧ z.length ≤ maxLen ∧ inI i := by
  simp only [Value.okWide, ht] at hval
  obtain ⟨cs, rfl, h2, _⟩ := hval
  rw [hct] at h2
  obtain ⟨a0, a1, a2, a3, rfl⟩ := Go.Joins.array4 h2
  obtain ⟨fuel, hf⟩ := hd
  obtain ⟨y0, y1, y2, y3, n, _, _, k0, k1, k2, k3⟩ := Go.Joins.trod_struct4 ht hf
  simp only [Value.cells] at k0 k1 k2 k3
  rw [o0, c0] at k0
  rw [o1, c1] at k1
  rw [o2, c2] at k2
  rw [o3, c3] at k3
  obtain ⟨s0, e0, _, l0⟩ := DataW.trod_string t0 k0
  obtain ⟨s1, e1, _, l1⟩ := DataW.trod_string t1 k1
  obtain ⟨i, e2, _, wi⟩ := DataW.trod_int t2 k2
  obtain ⟨s3, e3, _, l3⟩ := DataW.trod_string t3 k3
  simp at e0 e1 e2 e3
  subst e0 e1 e2 e3
  obtain ⟨⟨s0⟩⟩ := s0
  obtain ⟨⟨s1⟩⟩ := s1
  obtain ⟨⟨s3⟩⟩ := s3
  refine ⟨s0, s1, i, s3, rfl, by simpa [ByteArray.size] using l0, by simpa [ByteArray.size] using l1, by simpa [ByteArray.size] using l3, ?_⟩
  have h4 : (Lit.int .i64 i).wf = true := wi
  simp [Lit.wf, IntKind.min, IntKind.max, IntKind.signed, IntKind.bits] at h4
  unfold inI
  omega
theorem vl_who {S : Nat → Prop} {ρ : Rho} (n m : List UInt8) (i : Int) (z : List UInt8) : Vl w S ρ (.agg [(1, .str n), (1, .str m), (1, .int .i64 i), (1, .str z)]) (.agg (whoC n m i z).toArray) :=
  Vl.agg' (Css.cs ⟨[.string ⟨n.toArray⟩], _, rfl, rfl, .str n, [.string ⟨m.toArray⟩], _, rfl, rfl, .str m, [.int .i64 i], _, rfl, rfl, .int .i64 i, [.string ⟨z.toArray⟩], [], rfl, rfl, .str z, rfl⟩)
end
end Go.Proofs.YtlkaaoekbmegkaaGreatDoor
/- The law of persons. -/
namespace Go.Proofs.YtlkaaoekbmegkaaGreatDoor
set_option linter.all false
open Go.RowKit
open Go.Lib (index hasPrefix cut indexAny itoa decDigits)
theorem guessW_len (s : List UInt8) : (guessW s).name.length ≤ s.length ∧ (guessW s).mail.length ≤ s.length ∧ (guessW s).zone.length ≤ s.length ∧ 0 ≤ (guessW s).time ∧ (guessW s).time < 4611686018427387904 := by
  have hA1 := cutl1 s [60]
  have hA2 := cutl2 s [60]
  have hB1 := cutl1 (cut s [60]).2.1 [62]
  have hB2 := cutl2 (cut s [60]).2.1 [62]
  have hF := frontL_len (cut (cut s [60]).2.1 [62]).2.1 [32]
  have hC2 := cutl2 (frontL (cut (cut s [60]).2.1 [62]).2.1 [32]) [32]
  have hd := decN_lt (cut (frontL (cut (cut s [60]).2.1 [62]).2.1 [32]) [32]).1
  unfold guessW
  simp only [List.length_take]
  omega
theorem personR_t {s : List UInt8} {a b : List UInt8} {t : Int} {c : List UInt8} (h : personB s = true) (hv : personV s = ⟨a, b, t, c⟩) : personR s = fun pr => some ⟨.tup [.agg [(1, .str a), (1, .str b), (1, .int .i64 t), (1, .str c)], .int .i64 0], [], pr⟩ := by
  funext pr; unfold personR; rw [h, hv]; rfl
theorem personR_f {s : List UInt8} (h : personB s = false) : personR s = fun pr => some ⟨.tup [.agg [(1, .str []), (1, .str []), (1, .int .i64 0), (1, .str [])], .int .i64 4], [], pr⟩ := by
  funext pr; unfold personR personV; rw [h]; rfl
noncomputable def lpersonsS : Spec := fun xs hp => match xs, hp with
  | [.agg [(1, .str n), (1, .str m), (1, .int .i64 t), (1, .str z)], .str s], [] => some ⟨.bool true, [], n.length ≤ 9223372036854775807 ∧ m.length ≤ 9223372036854775807 ∧ z.length ≤ 9223372036854775807 ∧ s.length ≤ 9223372036854775807 ∧ inI t⟩
  | _, _ => none
noncomputable def phiPers : Phi := phiL [(14, [], lwhoS), (17, [], lwhoOfS), (15, [], textS), (16, [], rpersonS), (18, [], rtextS), (19, [], personS), (20, [], rguessS), (11, [], knownS)]
theorem phiPers_ok : PhiOk Tryz.prog phiPers := phi_cons lwho_ok (by kernel_rfl) (phi_cons lwhoOf_ok (by kernel_rfl) (phi_cons ctext_ok (by kernel_rfl) (phi_cons rperson_ok (by kernel_rfl) (phi_cons rtext_ok (by kernel_rfl) (phi_cons person_ok (by kernel_rfl) (phi_cons rguess_ok (by kernel_rfl) (phi_cons known11_ok (by kernel_rfl) phi_nil)))))))
theorem phiPers_1 : phiPers 14 = some ([], lwhoS) := rfl
theorem phiPers_2 : phiPers 17 = some ([], lwhoOfS) := rfl
theorem phiPers_3 : phiPers 15 = some ([], textS) := rfl
theorem phiPers_4 : phiPers 16 = some ([], rpersonS) := rfl
theorem phiPers_5 : phiPers 18 = some ([], rtextS) := rfl
theorem phiPers_6 : phiPers 19 = some ([], personS) := rfl
theorem phiPers_7 : phiPers 20 = some ([], rguessS) := rfl
theorem phiPers_8 : phiPers 11 = some ([], knownS) := rfl
set_option maxHeartbeats 4000000 in
theorem lpersons_ok : FnOk Tryz.prog 4 lpersonsS := by
  refine fn_slim2 Tryz.func4 s_lpersons phiPers_ok ?_
  intro xs hp r hs hp'
  unfold lpersonsS at hs
  split at hs
  · injection hs with hs; subst hs
    rename_i n m t z s
    obtain ⟨p1, p2, p3, p4, p5⟩ := hp'
    refine ⟨len_le (by kernel_rfl), ?_⟩
    have hts := take_min s 200
    have hn : (n.take 200).length ≤ 200 := by rw [List.length_take]; omega
    have hm : (m.take 200).length ≤ 200 := by rw [List.length_take]; omega
    have hz : (z.take 200).length ≤ 200 := by rw [List.length_take]; omega
    have hsl : (s.take 200).length ≤ 200 := by rw [List.length_take]; omega
    have hmin : 0 ≤ min (s.length : Int) 200 ∧ min (s.length : Int) 200 ≤ (s.length : Int) := by omega
    have hts : s.take (min (s.length : Int) 200).toNat = s.take 200 := hts
    have hg := guessW_len (s.take 200)
    have hgi := guess_iff (s.take 200)
    have hge := @guess_eq (s.take 200)
    generalize hgg : guessW (s.take 200) = g at hg hgi hge
    obtain ⟨gn, gm, gt, gz⟩ := g
    simp only at hg
    obtain ⟨g1, g2, g3, g4, g5⟩ := hg
    have hw0 : ∀ w : WhoL, personW (s.take 200) = w → True := fun _ _ => trivial
    simp only [c_lpersons, r_lpersons, phiPers_1, phiPers_2, phiPers_3, phiPers_4, phiPers_5, phiPers_6, phiPers_7, phiPers_8, lwhoS, lwhoOfS, textS, textR, rpersonS, rtextS, personS, rguessS, knownS, hts, hgg, whoP, if_true, if_false, Bool.false_eq_true, go_sem, Nat.reduceDiv, Nat.reduceMod, ↓reduceIte, Nat.reduceEqDiff, Nat.reduceBEq, Nat.reduceSub, Nat.reduceLT, Nat.reduceAdd, Nat.reduceLeDiff, reduceCtorEq, Int.reduceEq, Int.reduceNe, Int.reduceLT, Int.reduceLE, Int.reduceToNat]
    refine ⟨⟨p1, p2, p3⟩, hmin, by omega, ⟨by omega, by omega, by omega⟩, ?_⟩
    cases h1 : rightW ⟨n.take 200, m.take 200, t, z.take 200⟩ with
    | true =>
      obtain ⟨k1, k2⟩ := personV_text h1
      have hR1 := personR_t k1 k2
      have hl := textW_len h1
      simp only at hl
      simp only [k_lpersons_5, k_lpersons_6, r_lpersons, phiPers_1, phiPers_2, phiPers_3, phiPers_4, phiPers_5, phiPers_6, phiPers_7, phiPers_8, lwhoS, lwhoOfS, textS, textR, rpersonS, rtextS, personS, rguessS, knownS, hts, hgg, whoP, if_true, if_false, Bool.false_eq_true, h1, hR1, go_sem, Nat.reduceDiv, Nat.reduceMod, ↓reduceIte, Nat.reduceEqDiff, Nat.reduceBEq, Nat.reduceSub, Nat.reduceLT, Nat.reduceAdd, Nat.reduceLeDiff, reduceCtorEq, Int.reduceEq, Int.reduceNe, Int.reduceLT, Int.reduceLE, Int.reduceToNat]
      refine ⟨⟨by omega, by omega, by omega, p5⟩, by omega, ?_⟩
      cases h2 : personB (s.take 200) with
      | true =>
        rw [h2] at hgi
        obtain ⟨h3, h4⟩ := (Bool.and_eq_true _ _).mp hgi.symm
        have hv : personV (s.take 200) = ⟨gn, gm, gt, gz⟩ := by unfold personV; rw [if_pos h2]; exact (hge h2).symm
        have hR := personR_t h2 hv
        simp only [k_lpersons_7, k_lpersons_9, k_lpersons_10, r_lpersons, phiPers_1, phiPers_2, phiPers_3, phiPers_4, phiPers_5, phiPers_6, phiPers_7, phiPers_8, lwhoS, lwhoOfS, textS, textR, rpersonS, rtextS, personS, rguessS, knownS, hts, hgg, whoP, if_true, if_false, Bool.false_eq_true, h3, h4, hR, go_sem, Nat.reduceDiv, Nat.reduceMod, ↓reduceIte, Nat.reduceEqDiff, Nat.reduceBEq, Nat.reduceSub, Nat.reduceLT, Nat.reduceAdd, Nat.reduceLeDiff, reduceCtorEq, Int.reduceEq, Int.reduceNe, Int.reduceLT, Int.reduceLE, Int.reduceToNat]
        repeat' apply And.intro
        all_goals first | omega | rfl | exact p5.1 | exact p5.2 | (unfold inI; omega) | exact p5 | skip
      | false =>
        rw [h2] at hgi
        have hR := personR_f h2
        cases h3 : rightW ⟨gn, gm, gt, gz⟩ with
        | true =>
          rw [h3, Bool.true_and] at hgi
          have h4 := hgi.symm
          simp only [k_lpersons_7, k_lpersons_9, k_lpersons_10, r_lpersons, phiPers_1, phiPers_2, phiPers_3, phiPers_4, phiPers_5, phiPers_6, phiPers_7, phiPers_8, lwhoS, lwhoOfS, textS, textR, rpersonS, rtextS, personS, rguessS, knownS, hts, hgg, whoP, if_true, if_false, Bool.false_eq_true, h3, h4, hR, go_sem, Nat.reduceDiv, Nat.reduceMod, ↓reduceIte, Nat.reduceEqDiff, Nat.reduceBEq, Nat.reduceSub, Nat.reduceLT, Nat.reduceAdd, Nat.reduceLeDiff, reduceCtorEq, Int.reduceEq, Int.reduceNe, Int.reduceLT, Int.reduceLE, Int.reduceToNat]
          repeat' apply And.intro
          all_goals first | omega | rfl | exact p5.1 | exact p5.2 | (unfold inI; omega) | exact p5 | skip
        | false =>
          simp only [k_lpersons_7, k_lpersons_9, k_lpersons_10, r_lpersons, phiPers_1, phiPers_2, phiPers_3, phiPers_4, phiPers_5, phiPers_6, phiPers_7, phiPers_8, lwhoS, lwhoOfS, textS, textR, rpersonS, rtextS, personS, rguessS, knownS, hts, hgg, whoP, if_true, if_false, Bool.false_eq_true, h3, hR, go_sem, Nat.reduceDiv, Nat.reduceMod, ↓reduceIte, Nat.reduceEqDiff, Nat.reduceBEq, Nat.reduceSub, Nat.reduceLT, Nat.reduceAdd, Nat.reduceLeDiff, reduceCtorEq, Int.reduceEq, Int.reduceNe, Int.reduceLT, Int.reduceLE, Int.reduceToNat]
          repeat' apply And.intro
          all_goals first | omega | rfl | exact p5.1 | exact p5.2 | (unfold inI; omega) | exact p5 | skip
    | false =>
      simp only [k_lpersons_5, k_lpersons_6, r_lpersons, phiPers_1, phiPers_2, phiPers_3, phiPers_4, phiPers_5, phiPers_6, phiPers_7, phiPers_8, lwhoS, lwhoOfS, textS, textR, rpersonS, rtextS, personS, rguessS, knownS, hts, hgg, whoP, if_true, if_false, Bool.false_eq_true, h1, go_sem, Nat.reduceDiv, Nat.reduceMod, ↓reduceIte, Nat.reduceEqDiff, Nat.reduceBEq, Nat.reduceSub, Nat.reduceLT, Nat.reduceAdd, Nat.reduceLeDiff, reduceCtorEq, Int.reduceEq, Int.reduceNe, Int.reduceLT, Int.reduceLE, Int.reduceToNat]
      cases h2 : personB (s.take 200) with
      | true =>
        rw [h2] at hgi
        obtain ⟨h3, h4⟩ := (Bool.and_eq_true _ _).mp hgi.symm
        have hv : personV (s.take 200) = ⟨gn, gm, gt, gz⟩ := by unfold personV; rw [if_pos h2]; exact (hge h2).symm
        have hR := personR_t h2 hv
        simp only [k_lpersons_7, k_lpersons_9, k_lpersons_10, r_lpersons, phiPers_1, phiPers_2, phiPers_3, phiPers_4, phiPers_5, phiPers_6, phiPers_7, phiPers_8, lwhoS, lwhoOfS, textS, textR, rpersonS, rtextS, personS, rguessS, knownS, hts, hgg, whoP, if_true, if_false, Bool.false_eq_true, h3, h4, hR, go_sem, Nat.reduceDiv, Nat.reduceMod, ↓reduceIte, Nat.reduceEqDiff, Nat.reduceBEq, Nat.reduceSub, Nat.reduceLT, Nat.reduceAdd, Nat.reduceLeDiff, reduceCtorEq, Int.reduceEq, Int.reduceNe, Int.reduceLT, Int.reduceLE, Int.reduceToNat]
        repeat' apply And.intro
        all_goals first | omega | rfl | exact p5.1 | exact p5.2 | (unfold inI; omega) | exact p5 | skip
      | false =>
        rw [h2] at hgi
        have hR := personR_f h2
        cases h3 : rightW ⟨gn, gm, gt, gz⟩ with
        | true =>
          rw [h3, Bool.true_and] at hgi
          have h4 := hgi.symm
          simp only [k_lpersons_7, k_lpersons_9, k_lpersons_10, r_lpersons, phiPers_1, phiPers_2, phiPers_3, phiPers_4, phiPers_5, phiPers_6, phiPers_7, phiPers_8, lwhoS, lwhoOfS, textS, textR, rpersonS, rtextS, personS, rguessS, knownS, hts, hgg, whoP, if_true, if_false, Bool.false_eq_true, h3, h4, hR, go_sem, Nat.reduceDiv, Nat.reduceMod, ↓reduceIte, Nat.reduceEqDiff, Nat.reduceBEq, Nat.reduceSub, Nat.reduceLT, Nat.reduceAdd, Nat.reduceLeDiff, reduceCtorEq, Int.reduceEq, Int.reduceNe, Int.reduceLT, Int.reduceLE, Int.reduceToNat]
          repeat' apply And.intro
          all_goals first | omega | rfl | exact p5.1 | exact p5.2 | (unfold inI; omega) | exact p5 | skip
        | false =>
          simp only [k_lpersons_7, k_lpersons_9, k_lpersons_10, r_lpersons, phiPers_1, phiPers_2, phiPers_3, phiPers_4, phiPers_5, phiPers_6, phiPers_7, phiPers_8, lwhoS, lwhoOfS, textS, textR, rpersonS, rtextS, personS, rguessS, knownS, hts, hgg, whoP, if_true, if_false, Bool.false_eq_true, h3, hR, go_sem, Nat.reduceDiv, Nat.reduceMod, ↓reduceIte, Nat.reduceEqDiff, Nat.reduceBEq, Nat.reduceSub, Nat.reduceLT, Nat.reduceAdd, Nat.reduceLeDiff, reduceCtorEq, Int.reduceEq, Int.reduceNe, Int.reduceLT, Int.reduceLE, Int.reduceToNat]
          repeat' apply And.intro
          all_goals first | omega | rfl | exact p5.1 | exact p5.2 | (unfold inI; omega) | exact p5 | skip
  · cases hs
theorem commitPersons_walk {n0 m0 : List UInt8} {i0 : Int} {z0 l1 : List UInt8} (w : World) (w0 : n0.length ≤ maxLen ∧ m0.length ≤ maxLen ∧ z0.length ≤ maxLen ∧ inI i0) (w1 : (ByteArray.mk l1.toArray).size ≤ maxLen) (g : GlobOk w (fun b => b < w.heap.size)) :
    Calls Tryz.prog 4 #[.agg (whoC n0 m0 i0 z0).toArray, .string ⟨l1.toArray⟩] w fun e w' => e = .returned (.bool true) ∧ Below w.heap.size w w' :=
  lpersons_ok.calls_bool (xs := [.agg [(1, .str n0), (1, .str m0), (1, .int .i64 i0), (1, .str z0)], .str l1]) rfl ⟨by simpa [maxLen] using w0.1, by simpa [maxLen] using w0.2.1, by simpa [maxLen] using w0.2.2.1, by simpa [ByteArray.size, maxLen] using w1, w0.2.2.2⟩ rfl
    (args_cons (vl_who n0 m0 i0 z0) (args_cons (Vl.str' l1) (args_nil g)))
end Go.Proofs.YtlkaaoekbmegkaaGreatDoor
