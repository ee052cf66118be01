import Derived.Test.YtlkaaoekbmegkaaDoorQFBld
import Derived.Test.YtlkaaoekbmegkaaDoorQComLaw
import Derived.Test.YtlkaaoekbmegkaaDoorChecked
import Derived.Test.YtlkaaoekbmegkaaDoorQAMS
import Derived.Test.YtlkaaoekbmegkaaDoorQFCom6
namespace Go.Proofs.YtlkaaoekbmegkaaDoor
set_option linter.all false
open Go.RowKit
open Go.Lib (index hasPrefix cut indexAny itoa)
def phiPrn : Phi := phiL [(13, [], textS), (14, [], cfeS), (18, [], hexS), (17, [], bwsS), (19, [], replS), (20, [], bstrS)]
theorem phiPrn_ok : PhiOk Tryd.prog phiPrn := phi_cons ctext_ok (by kernel_rfl) (phi_cons cfe_ok (by kernel_rfl) (phi_cons hex_ok (by kernel_rfl) (phi_cons bws_ok (by kernel_rfl) (phi_cons repl_ok (by kernel_rfl) (phi_cons bstr_ok (by kernel_rfl) phi_nil)))))
theorem phiPrn_1 : phiPrn 13 = some ([], textS) := rfl
theorem phiPrn_2 : phiPrn 14 = some ([], cfeS) := rfl
theorem phiPrn_3 : phiPrn 18 = some ([], hexS) := rfl
theorem phiPrn_4 : phiPrn 17 = some ([], bwsS) := rfl
theorem phiPrn_5 : phiPrn 19 = some ([], replS) := rfl
theorem phiPrn_6 : phiPrn 20 = some ([], bstrS) := rfl
set_option maxHeartbeats 4000000 in
theorem prn_ok : FnOk Tryd.prog 6 prnS := by
  refine fn_slim2 Tryd.func6 s_cprn phiPrn_ok ?_
  intro xs hp r hs hp'
  unfold prnS at hs
  split at hs
  · rename_i t kq ps an am at' az cn cm ct cz ke es m
    obtain ⟨q1, q2, q3, q4, q5, q6⟩ := prnR_pre hs hp'
    generalize unV t = t at *
    subst q1
    generalize ps.map unId = ps at *
    subst q2
    generalize es.map unEx = es at *
    subst q3
    obtain ⟨z1, z2, z3, z0, z4, z5, z6, z7⟩ := q6
    simp only at z0 z1 z2 z3 z4 z5 z6 z7
    refine ⟨len_le (by kernel_rfl), ?_⟩
    have hk : ∀ x ∈ es, x.1.length < 4294967281 := fun x hx => by have := (z5 x hx).1; omega
    simp only [c_cprn, phiPrn_1, textS, textR, go_sem, Nat.reduceDiv, Nat.reduceMod, ↓reduceIte, Nat.reduceEqDiff, Nat.reduceBEq, Nat.reduceSub, Nat.reduceLT, Nat.reduceAdd, Nat.reduceLeDiff, reduceCtorEq, Int.reduceEq, Int.reduceNe, Int.reduceLT, Int.reduceLE, Int.reduceToNat]
    refine ⟨z6, z7, ?_⟩
    generalize ha : textW ⟨an, am, at', az⟩ = a at *
    generalize hb : textW ⟨cn, cm, ct, cz⟩ = b at *
    cases h1 : rightW ⟨an, am, at', az⟩ with
    | false =>
      rw [prnR_f _ (rightC_a h1)] at hs
      injection hs with hs; subst hs
      simp only [k_cprn_3, r_cprn, if_true, if_false, go_sem, Nat.reduceDiv, Nat.reduceMod, ↓reduceIte, Nat.reduceEqDiff, Nat.reduceBEq, Nat.reduceSub, Nat.reduceLT, Nat.reduceAdd, Nat.reduceLeDiff, reduceCtorEq, Int.reduceEq, Int.reduceNe, Int.reduceLT, Int.reduceLE, Int.reduceToNat]
    | true =>
      cases h2 : rightW ⟨cn, cm, ct, cz⟩ with
      | false =>
        rw [prnR_f _ (rightC_b h2)] at hs
        injection hs with hs; subst hs
        simp only [k_cprn_3, r_cprn, if_true, if_false, go_sem, Nat.reduceDiv, Nat.reduceMod, ↓reduceIte, Nat.reduceEqDiff, Nat.reduceBEq, Nat.reduceSub, Nat.reduceLT, Nat.reduceAdd, Nat.reduceLeDiff, reduceCtorEq, Int.reduceEq, Int.reduceNe, Int.reduceLT, Int.reduceLE, Int.reduceToNat]
      | true =>
        cases h3 : es.any badE with
        | true =>
          rw [prnR_f _ (rightC_e h3)] at hs
          injection hs with hs; subst hs
          simp only [k_cprn_3, r_cprn, phiPrn_2, cfeS, unEx_map, h3, if_true, if_false, go_sem, Nat.reduceDiv, Nat.reduceMod, ↓reduceIte, Nat.reduceEqDiff, Nat.reduceBEq, Nat.reduceSub, Nat.reduceLT, Nat.reduceAdd, Nat.reduceLeDiff, reduceCtorEq, Int.reduceEq, Int.reduceNe, Int.reduceLT, Int.reduceLE, Int.reduceToNat]
          exact ⟨q5, z4, hk⟩
        | false =>
          rw [prnR_t _ (rightC_t h1 h2 h3)] at hs
          injection hs with hs; subst hs
          unfold bodyC at z1
          simp only [ha, hb] at z1
          unfold bodyC
          simp only [ha, hb]
          simp only [k_cprn_3, phiPrn_2, cfeS, unEx_map, h3, if_true, if_false, go_sem, Nat.reduceDiv, Nat.reduceMod, ↓reduceIte, Nat.reduceEqDiff, Nat.reduceBEq, Nat.reduceSub, Nat.reduceLT, Nat.reduceAdd, Nat.reduceLeDiff, reduceCtorEq, Int.reduceEq, Int.reduceNe, Int.reduceLT, Int.reduceLE, Int.reduceToNat]
          refine ⟨⟨q5, z4, hk⟩, ?_⟩
          simp only [k_cprn_4, phiPrn_3, phiPrn_4, hexS, bwsS, selfX, unV_U, go_sem, Nat.reduceDiv, Nat.reduceMod, ↓reduceIte, Nat.reduceEqDiff, Nat.reduceBEq, Nat.reduceSub, Nat.reduceLT, Nat.reduceAdd, Nat.reduceLeDiff, reduceCtorEq, Int.reduceEq, Int.reduceNe, Int.reduceLT, Int.reduceLE, Int.reduceToNat]
          have hh := hexL_length t
          have htot : (printC t ps a b es m).length ≤ 1000000000 := z1
          unfold printC at htot
          simp only [List.length_append] at htot
          have hhc : (headC t).length = 6 + (hexL t).length := by simp only [headC, List.length_append, List.length_cons, List.length_nil]; omega
          refine ⟨z2, by (first | omega | (simp only [lenOk, bytesOk, inI, IntKind.bits, List.length_append, Bs_len, List.length_cons, List.length_nil, List.length_map, List.length_take, List.length_drop, List.length_replicate]; omega)), by (first | omega | (simp only [lenOk, bytesOk, inI, IntKind.bits, List.length_append, Bs_len, List.length_cons, List.length_nil, List.length_map, List.length_take, List.length_drop, List.length_replicate]; omega)), by (first | omega | (simp only [lenOk, bytesOk, inI, IntKind.bits, List.length_append, Bs_len, List.length_cons, List.length_nil, List.length_map, List.length_take, List.length_drop, List.length_replicate]; omega)), ?_⟩
          refine loop2P [] [1, 4, 6, 8, 43, 44, 45] [0, 1, 2] (fun q : Nat × List UInt8 => ⟨[(1, .ref 0 0 0), (4, .str a), (6, .str b), (8, .ref 1 0 0), (43, .sl kq (ps.map idAV)), (44, .int .i64 (ps.length : Int)), (45, .int .i64 (q.1 : Int))],
            [.cells 35 [(20, .blob (t.map U)), (1, .sl kq (ps.map idAV)), (1, .str an), (1, .str am), (1, .int .i64 at'), (1, .str az), (1, .str cn), (1, .str cm), (1, .int .i64 ct), (1, .str cz), (1, .sl ke (es.map exV)), (1, .str m)], .cells 61 [(1, .ref 1 0 0), (1, .own 2 q.1)], .row 5 1 q.1 (Bs q.2)]⟩)
            (fun q => q.1 ≤ ps.length ∧ q.2 = headC t ++ (ps.take q.1).flatMap parL) (fun q => ps.length - q.1) (0, headC t) rfl ⟨Nat.zero_le _, by simp⟩ ⟨rfl, by rfl⟩ (fun q hq R hR => ?_)
          obtain ⟨i, acc⟩ := q
          simp only at hq
          obtain ⟨hi, rfl⟩ := hq
          simp only at hi hR ⊢
          have hle := flatMap_take_le parL ps i
          by_cases hil : i < ps.length
          · have c1 : decide ((i : Int) < (ps.length : Int)) = true := decide_eq_true (by omega)
            have hk : kq = 20 := q4.resolve_right (by intro h; have := congrArg List.length h; simp at this; rw [this] at hil; simp at hil)
            subst hk
            have hget := getD_map idAV ps [] (.blob (List.replicate 20 (.int .u8 0))) hil
            have hga : ps.getD i [] = ps[i] := by simp [List.getD_eq_getElem?_getD, List.getElem?_eq_getElem hil]
            have hlen := z3 ps[i] (List.getElem_mem _)
            have hhx := hexL_length ps[i]
            have hle2 := flatMap_take_le parL ps (i + 1)
            rw [← flatMap_take parL ps hil, List.length_append] at hle2
            have hpl : (parL ps[i]).length = 8 + (hexL ps[i]).length := by simp only [parL, List.length_append, List.length_cons, List.length_nil]; omega
            simp only [b_cprn_0, phiPrn_3, phiPrn_4, hexS, bwsS, selfX, unV_U, c1, hget, hga, idAV, Int.toNat_natCast, List.length_map, hlen, Bs_app, go_sem, Nat.reduceDiv, Nat.reduceMod, ↓reduceIte, Nat.reduceEqDiff, Nat.reduceBEq, Nat.reduceSub, Nat.reduceLT, Nat.reduceAdd, Nat.reduceLeDiff, reduceCtorEq, Int.reduceEq, Int.reduceNe, Int.reduceLT, Int.reduceLE, Int.reduceToNat]
            refine ⟨⟨by omega, by omega⟩, by (first | omega | (simp only [lenOk, bytesOk, inI, IntKind.bits, List.length_append, Bs_len, List.length_cons, List.length_nil, List.length_map, List.length_take, List.length_drop, List.length_replicate]; omega)), by (first | omega | (simp only [lenOk, bytesOk, inI, IntKind.bits, List.length_append, Bs_len, List.length_cons, List.length_nil, List.length_map, List.length_take, List.length_drop, List.length_replicate]; omega)), by (first | omega | (simp only [lenOk, bytesOk, inI, IntKind.bits, List.length_append, Bs_len, List.length_cons, List.length_nil, List.length_map, List.length_take, List.length_drop, List.length_replicate]; omega)), by (first | omega | (simp only [lenOk, bytesOk, inI, IntKind.bits, List.length_append, Bs_len, List.length_cons, List.length_nil, List.length_map, List.length_take, List.length_drop, List.length_replicate]; omega)), hR _ (i + 1, headC t ++ (ps.take (i + 1)).flatMap parL) ⟨by simp only; omega, rfl⟩ (by simp only; omega) ?_⟩
            simp only
            rw [← flatMap_take parL ps hil, ← List.append_assoc]
            rfl
          · have c1 : decide ((i : Int) < (ps.length : Int)) = false := decide_eq_false (by omega)
            obtain rfl : i = ps.length := by omega
            rw [List.take_length]
            simp only [b_cprn_0, t_cprn_1, phiPrn_4, bwsS, selfX, c1, Bs_app, go_sem, Nat.reduceDiv, Nat.reduceMod, ↓reduceIte, Nat.reduceEqDiff, Nat.reduceBEq, Nat.reduceSub, Nat.reduceLT, Nat.reduceAdd, Nat.reduceLeDiff, reduceCtorEq, Int.reduceEq, Int.reduceNe, Int.reduceLT, Int.reduceLE, Int.reduceToNat]
            have hmc : (midC a b).length = 20 + a.length + b.length - 1 := by simp only [midC, List.length_append, List.length_cons, List.length_nil]; omega
            have hmt : (midC a b).length ≤ 1000000000 := by omega
            refine ⟨by (first | omega | (simp only [lenOk, bytesOk, inI, IntKind.bits, List.length_append, Bs_len, List.length_cons, List.length_nil, List.length_map, List.length_take, List.length_drop, List.length_replicate]; omega)), by (first | omega | (simp only [lenOk, bytesOk, inI, IntKind.bits, List.length_append, Bs_len, List.length_cons, List.length_nil, List.length_map, List.length_take, List.length_drop, List.length_replicate]; omega)), by (first | omega | (simp only [lenOk, bytesOk, inI, IntKind.bits, List.length_append, Bs_len, List.length_cons, List.length_nil, List.length_map, List.length_take, List.length_drop, List.length_replicate]; omega)), by (first | omega | (simp only [lenOk, bytesOk, inI, IntKind.bits, List.length_append, Bs_len, List.length_cons, List.length_nil, List.length_map, List.length_take, List.length_drop, List.length_replicate]; omega)), by (first | omega | (simp only [lenOk, bytesOk, inI, IntKind.bits, List.length_append, Bs_len, List.length_cons, List.length_nil, List.length_map, List.length_take, List.length_drop, List.length_replicate]; omega)), ?_⟩
            clear hR R
            refine loop2P [] [1, 8, 63, 64, 65] [0, 1, 2] (fun q : Nat × List UInt8 => ⟨[(1, .ref 0 0 0), (8, .ref 1 0 0), (63, .sl ke (es.map exV)), (64, .int .i64 (es.length : Int)), (65, .int .i64 (q.1 : Int))],
              [.cells 35 [(20, .blob (t.map U)), (1, .sl kq (ps.map idAV)), (1, .str an), (1, .str am), (1, .int .i64 at'), (1, .str az), (1, .str cn), (1, .str cm), (1, .int .i64 ct), (1, .str cz), (1, .sl ke (es.map exV)), (1, .str m)], .cells 61 [(1, .ref 1 0 0), (1, .own 2 (ps.length + 1 + q.1))], .row 5 1 (ps.length + 1 + q.1) (Bs q.2)]⟩)
              (fun q => q.1 ≤ es.length ∧ q.2 = headC t ++ ps.flatMap parL ++ midC a b ++ (es.take q.1).flatMap exL) (fun q => es.length - q.1) (0, headC t ++ ps.flatMap parL ++ midC a b) (by rfl) ⟨Nat.zero_le _, by simp⟩ ⟨rfl, by rfl⟩ (fun q hq R hR => ?_)
            obtain ⟨j, acc⟩ := q
            simp only at hq
            obtain ⟨hj, rfl⟩ := hq
            simp only at hj hR ⊢
            have hle := flatMap_take_le exL es j
            by_cases hjl : j < es.length
            · have c1 : decide ((j : Int) < (es.length : Int)) = true := decide_eq_true (by omega)
              have hk : ke = 2 := q5.resolve_right (by intro h; have := congrArg List.length h; simp at this; rw [this] at hjl; simp at hjl)
              subst hk
              have hget := getD_map exV es ([], []) (.agg [(1, (.str [])), (1, (.str []))]) hjl
              have hga : es.getD j ([], []) = es[j] := by simp [List.getD_eq_getElem?_getD, List.getElem?_eq_getElem hjl]
              obtain ⟨l1, l2⟩ := z5 es[j] (List.getElem_mem _)
              have hle2 := flatMap_take_le exL es (j + 1)
              rw [← flatMap_take exL es hjl, List.length_append] at hle2
              have hpl : (exL es[j]).length = es[j].1.length + (subst1 10 [10, 32] es[j].2).length + 2 := by simp only [exL, List.length_append, List.length_cons, List.length_nil]; omega
              have dn : decide (([10] : List UInt8) = [10, 32]) = false := by decide
              simp only [b_cprn_1, phiPrn_4, phiPrn_5, bwsS, replS, selfX, c1, hget, hga, exV, dn, Int.toNat_natCast, Bs_app, go_sem, Nat.reduceDiv, Nat.reduceMod, ↓reduceIte, Nat.reduceEqDiff, Nat.reduceBEq, Nat.reduceSub, Nat.reduceLT, Nat.reduceAdd, Nat.reduceLeDiff, reduceCtorEq, Int.reduceEq, Int.reduceNe, Int.reduceLT, Int.reduceLE, Int.reduceToNat]
              refine ⟨⟨by omega, by omega⟩, by (first | omega | (simp only [lenOk, bytesOk, inI, IntKind.bits, List.length_append, Bs_len, List.length_cons, List.length_nil, List.length_map, List.length_take, List.length_drop, List.length_replicate]; omega)), l2, by (first | omega | (simp only [lenOk, bytesOk, inI, IntKind.bits, List.length_append, Bs_len, List.length_cons, List.length_nil, List.length_map, List.length_take, List.length_drop, List.length_replicate]; omega)), by (first | omega | (simp only [lenOk, bytesOk, inI, IntKind.bits, List.length_append, Bs_len, List.length_cons, List.length_nil, List.length_map, List.length_take, List.length_drop, List.length_replicate]; omega)), by (first | omega | (simp only [lenOk, bytesOk, inI, IntKind.bits, List.length_append, Bs_len, List.length_cons, List.length_nil, List.length_map, List.length_take, List.length_drop, List.length_replicate]; omega)), by (first | omega | (simp only [lenOk, bytesOk, inI, IntKind.bits, List.length_append, Bs_len, List.length_cons, List.length_nil, List.length_map, List.length_take, List.length_drop, List.length_replicate]; omega)), hR _ (j + 1, headC t ++ ps.flatMap parL ++ midC a b ++ (es.take (j + 1)).flatMap exL) ⟨by simp only; omega, rfl⟩ (by simp only; omega) ?_⟩
              simp only
              rw [← flatMap_take exL es hjl, show headC t ++ ps.flatMap parL ++ midC a b ++ ((es.take j).flatMap exL ++ exL es[j]) = headC t ++ ps.flatMap parL ++ midC a b ++ (es.take j).flatMap exL ++ exL es[j] from (List.append_assoc _ _ _).symm]
              rfl
            · have c1 : decide ((j : Int) < (es.length : Int)) = false := decide_eq_false (by omega)
              obtain rfl : j = es.length := by omega
              rw [List.take_length]
              simp only [b_cprn_1, t_cprn_0, r_cprn, phiPrn_4, phiPrn_6, bwsS, bstrS, selfX, unB_Bs, c1, Bs_app, go_sem, Nat.reduceDiv, Nat.reduceMod, ↓reduceIte, Nat.reduceEqDiff, Nat.reduceBEq, Nat.reduceSub, Nat.reduceLT, Nat.reduceAdd, Nat.reduceLeDiff, reduceCtorEq, Int.reduceEq, Int.reduceNe, Int.reduceLT, Int.reduceLE, Int.reduceToNat]
              refine ⟨by (first | omega | (simp only [lenOk, bytesOk, inI, IntKind.bits, List.length_append, Bs_len, List.length_cons, List.length_nil, List.length_map, List.length_take, List.length_drop, List.length_replicate]; omega)), by (first | omega | (simp only [lenOk, bytesOk, inI, IntKind.bits, List.length_append, Bs_len, List.length_cons, List.length_nil, List.length_map, List.length_take, List.length_drop, List.length_replicate]; omega)), by (first | omega | (simp only [lenOk, bytesOk, inI, IntKind.bits, List.length_append, Bs_len, List.length_cons, List.length_nil, List.length_map, List.length_take, List.length_drop, List.length_replicate]; omega)), ?_⟩
              rfl
  · cases hs
end Go.Proofs.YtlkaaoekbmegkaaDoor
namespace Go.Proofs.YtlkaaoekbmegkaaDoor
set_option linter.all false
open Go.RowKit
open Go.Lib (index hasPrefix cut indexAny itoa decDigits)
def cut200 (w : WhoL) : WhoL := ⟨w.name.take 200, w.mail.take 200, w.time, w.zone.take 200⟩
def lwhoS : Spec := fun xs hp => match xs, hp with
  | [.agg [(1, .str n), (1, .str m), (1, .int .i64 t), (1, .str z)]], [] => some ⟨.agg [(1, .str (n.take 200)), (1, .str (m.take 200)), (1, .int .i64 t), (1, .str (z.take 200))], [], n.length ≤ 9223372036854775807 ∧ m.length ≤ 9223372036854775807 ∧ z.length ≤ 9223372036854775807⟩
  | _, _ => none
theorem take_min {α : Type} (l : List α) (k : Nat) : l.take (min (l.length : Int) (k : Int)).toNat = l.take k := by
  rcases Nat.le_total l.length k with h | h
  · rw [List.take_of_length_le (by omega), List.take_of_length_le h]
  · rw [show (min (l.length : Int) (k : Int)).toNat = k by omega]
theorem lwho_ok : FnOk Tryd.prog 12 lwhoS := by
  refine fn_slim2 Tryd.func12 s_lwho (Φ := phiL []) phi_nil ?_
  intro xs hp r hs hp'
  unfold lwhoS at hs
  split at hs
  · injection hs with hs; subst hs
    rename_i n m t z
    obtain ⟨p1, p2, p3⟩ := hp'
    refine ⟨len_le (by kernel_rfl), ?_⟩
    have t1 := take_min n 200
    have t2 := take_min m 200
    have t3 := take_min z 200
    simp only [c_lwho, r_lwho, go_sem, Nat.reduceDiv, Nat.reduceMod, ↓reduceIte, Nat.reduceEqDiff, Nat.reduceBEq, Nat.reduceSub, Nat.reduceLT, Nat.reduceAdd, Nat.reduceLeDiff, reduceCtorEq, Int.reduceEq, Int.reduceNe, Int.reduceLT, Int.reduceLE, Int.reduceToNat]
    refine ⟨⟨by omega, by omega⟩, ⟨by omega, by omega⟩, ⟨by omega, by omega⟩, ?_⟩
    rw [← t1, ← t2, ← t3]; rfl
  · cases hs
def lwhoOfS : Spec := fun xs hp => match xs, hp with
  | [.agg [(1, .str n), (1, .str m), (1, .int .i64 t), (1, .str z)]], [] => some ⟨.agg [(1, .str n), (1, .str m), (1, .int .i64 t), (1, .str z)], [], True⟩
  | _, _ => none
theorem lwhoOf_ok : FnOk Tryd.prog 26 lwhoOfS := by
  refine fn_slim2 Tryd.func26 s_lwhoOf (Φ := phiL []) phi_nil ?_
  intro xs hp r hs hp'
  unfold lwhoOfS at hs
  split at hs
  · injection hs with hs; subst hs
    rename_i n m t z
    refine ⟨len_le (by kernel_rfl), ?_⟩
    simp only [c_lwhoOf, r_lwhoOf, go_sem, Nat.reduceDiv, Nat.reduceMod, ↓reduceIte, Nat.reduceEqDiff, Nat.reduceBEq, Nat.reduceSub, Nat.reduceLT, Nat.reduceAdd, Nat.reduceLeDiff, reduceCtorEq, Int.reduceEq, Int.reduceNe, Int.reduceLT, Int.reduceLE, Int.reduceToNat]
  · cases hs
theorem flat_B (l : List UInt8) : ∀ x, x ∈ Bs l → flatB 4 x = true := by
  intro x hx
  obtain ⟨u, _, rfl⟩ := List.mem_map.1 hx
  rfl
def exW : WhoL := ⟨[65], [97, 64, 98], 12, [43, 48, 48, 48, 48]⟩
def exT : List UInt8 := [65, 32, 60, 97, 64, 98, 62, 32, 49, 50, 32, 43, 48, 48, 48, 48]
theorem exW_right : rightW exW = true := by decide
theorem exW_text : textW exW = exT := by
  have e : itoa 12 = [49, 50] := by
    rw [itoa_dec (by decide), show (12 : Int).toNat = 12 from rfl, decD_big (by decide), decD_small (by decide)]; rfl
  unfold textW exW
  simp only
  rw [e]; rfl
theorem exT_person : personB exT = true ∧ personV exT = exW := by rw [← exW_text]; exact personV_text exW_right
def exC : ComL := ⟨z20L, [], exW, exW, [([107], [120, 10, 121])], [109]⟩
theorem exC_right : rightC exC = true := by decide
theorem exC_len : 40 < (bodyC exC).length ∧ (bodyC exC).length ≤ 1000 := by
  rw [bodyC_shape]
  have h1 : (textW exC.author).length = 16 := by rw [show exC.author = exW from rfl, exW_text]; rfl
  have h2 : (textW exC.committer).length = 16 := by rw [show exC.committer = exW from rfl, exW_text]; rfl
  have h3 := hexL_length exC.tree
  have h4 : exC.tree.length = 20 := rfl
  have h5 : (exC.extras.flatMap exL).length = 7 := by decide
  have h6 : exC.message.length = 1 := rfl
  have h7 : (exC.parents.flatMap parL).length = 0 := rfl
  simp only [List.length_append, List.length_cons, h1, h2, h3, h4, h5, h6, h7, treW, autW, comW, List.length_nil]
  decide
theorem exC_size : sizeOkC exC := by
  have := exC_len
  refine ⟨by omega, rfl, ?_, by decide, by decide, ?_, by decide, by decide⟩
  · intro p hp; cases hp
  · intro x hx; rw [List.mem_singleton.1 hx]; decide
theorem exC_read : parB11 (bodyC exC) = true ∧ parC11 (bodyC exC) = exC := com_body exC_right rfl (by intro p hp; cases hp)
def knownS : Spec := fun xs hp => match xs, hp with
  | [], [] => some ⟨.bool true, [], True⟩
  | _, _ => none
def exWA : List (Nat × AV) := [(1, .str [65]), (1, .str [97, 64, 98]), (1, .int .i64 12), (1, .str [43, 48, 48, 48, 48])]
theorem exP : personR exT = fun pr => some ⟨.tup [.agg exWA, .int .i64 0], [], pr⟩ := by
  funext pr
  unfold personR
  rw [exT_person.1, exT_person.2]; rfl
theorem exP2 : personR [65, 32, 60, 97, 64, 98, 62, 32, 49, 50, 32, 43, 48, 48, 48, 48] = fun pr => some ⟨.tup [.agg exWA, .int .i64 0], [], pr⟩ := exP
def exB : List UInt8 := bodyC exC
theorem exPr (pr : Prop) : prnR ⟨unV (List.replicate 20 (Value.int .u8 0)), [], ⟨[65], [97, 64, 98], 12, [43, 48, 48, 48, 48]⟩, ⟨[65], [97, 64, 98], 12, [43, 48, 48, 48, 48]⟩, [unEx (.agg [(1, .str [107]), (1, .str [120, 10, 121])])], [109]⟩ pr =
    some ⟨.tup [.own 0 0, .int .i64 0], [.row 5 1 0 (Bs exB)], pr⟩ := prnR_t (c := exC) pr exC_right
theorem exRd (pr : Prop) : parR11 (parC11 exB) (parB11 exB) pr = some ⟨.tup [.agg [(20, .blob (z20L.map U)), (1, .own 0 0), (1, .str [65]), (1, .str [97, 64, 98]), (1, .int .i64 12), (1, .str [43, 48, 48, 48, 48]), (1, .str [65]), (1, .str [97, 64, 98]), (1, .int .i64 12), (1, .str [43, 48, 48, 48, 48]), (1, .own 1 1), (1, .str [109])], .int .i64 0],
    [.row 30 20 0 [], .row 54 2 1 [.agg [(1, .str [107]), (1, .str [120, 10, 121])]]], pr⟩ := by
  unfold parR11 exB
  rw [exC_read.1, exC_read.2]; rfl
theorem exB_len : 40 < exB.length ∧ exB.length ≤ 1000 := exC_len
theorem unV_z : List.replicate 20 (Value.int .u8 0) = List.map U (unV (List.replicate 20 (Value.int .u8 0))) := rfl
set_option maxHeartbeats 2000000 in
theorem known11_ok : FnOk Tryd.prog 10 knownS := by
  refine fn_slim2 Tryd.func10 s_known11 (Φ := phiL [(27, [], personS), (6, [], prnS), (7, [], cparS)]) (phi_cons person_ok (by kernel_rfl) (phi_cons prn_ok (by kernel_rfl) (phi_cons cpar_ok (by kernel_rfl) phi_nil))) ?_
  intro xs hp r hs hp'
  unfold knownS at hs
  split at hs
  · injection hs with hs; subst hs
    refine ⟨len_le (by kernel_rfl), ?_⟩
    obtain ⟨h1, h2⟩ := exB_len
    have d1 : decide ((40 : Int) < (exB.length : Int)) = true := decide_eq_true (by omega)
    simp only [c_known11, r_known11, personS, exP2, exWA, prnS, exPr, cparS, unB_Bs, exRd, d1, go_sem, Nat.reduceDiv, Nat.reduceMod, ↓reduceIte, Nat.reduceEqDiff, Nat.reduceBEq, Nat.reduceSub, Nat.reduceLT, Nat.reduceAdd, Nat.reduceLeDiff, reduceCtorEq, Int.reduceEq, Int.reduceNe, Int.reduceLT, Int.reduceLE, Int.reduceToNat]
    refine ⟨⟨⟨unV_z, rfl, .inr trivial, .inl trivial, exC_size⟩, fun x hx => flat_B _ x hx⟩, by omega, ?_⟩
    repeat' apply And.intro
    all_goals first | omega | rfl | (intro x hx; cases hx; done) | exact fun x hx => flat_B _ x hx | (intro x hx; rw [List.mem_singleton.1 hx]; rfl) | skip
  · cases hs
end Go.Proofs.YtlkaaoekbmegkaaDoor
namespace Go.Proofs.YtlkaaoekbmegkaaDoor
set_option linter.all false
open Go.RowKit
def b_rsame_0 : ACode := (.seq (.seq (.reg none [⟨(some 51), (.mv (.t 5)), none⟩, ⟨(some 52), (.fa 20 (.t 2)), none⟩, ⟨(some 53), (.ld (.one (.con (.slice none 0 0))) (.t 52)), none⟩, ⟨(some 54), (.len none false (.t 53)), none⟩, ⟨(some 55), (.bin .lss (.t 51) (.t 54)), none⟩]) (.cond (.t 55) .skip (.exit 0))) (.seq (.block 1 (.seq (.reg (some [(0, false), (1, false), (2, false), (3, false), (4, false), (5, false), (6, false), (7, false), (8, false), (9, false), (10, true)]) [⟨(some 58), (.fa 20 (.t 2)), none⟩, ⟨(some 59), (.ld (.one (.con (.slice none 0 0))) (.t 58)), none⟩, ⟨(some 60), (.mv (.t 5)), none⟩, ⟨(some 61), (.ia 20 (.blob (List.replicate 20 (.int .u8 0))) (.t 59) (.t 60)), none⟩, ⟨(some 62), (.ld (.arr 20) (.t 61)), none⟩, ⟨(some 63), (.fa 20 (.t 3)), none⟩, ⟨(some 64), (.ld (.one (.con (.slice none 0 0))) (.t 63)), none⟩, ⟨(some 65), (.mv (.t 5)), none⟩, ⟨(some 66), (.ia 20 (.blob (List.replicate 20 (.int .u8 0))) (.t 64) (.t 65)), none⟩, ⟨(some 67), (.ld (.arr 20) (.t 66)), none⟩, ⟨(some 68), (.eqA true 20 (.t 62) (.t 67)), none⟩]) (.cond (.t 68) (.seq (.reg none [⟨(some 4), (.mv (.c (.bool false))), none⟩]) .ret) .skip))) (.reg none [⟨(some 56), (.mv (.t 5)), none⟩, ⟨(some 57), (.bin .add (.t 56) (.c (.int .i64 1))), none⟩, ⟨(some 5), (.mv (.t 57)), none⟩])))
def b_rsame_1 : ACode := (.seq (.seq (.reg none [⟨(some 69), (.mv (.t 6)), none⟩, ⟨(some 70), (.fa 29 (.t 2)), none⟩, ⟨(some 71), (.ld (.one (.con (.slice none 0 0))) (.t 70)), none⟩, ⟨(some 72), (.len none false (.t 71)), none⟩, ⟨(some 73), (.bin .lss (.t 69) (.t 72)), none⟩]) (.cond (.t 73) .skip (.exit 2))) (.seq (.block 3 (.seq (.reg (some [(0, false), (1, false), (2, false), (3, false), (4, false), (5, false), (6, false), (7, false), (8, false), (9, false), (10, true)]) [⟨(some 76), (.fa 29 (.t 2)), none⟩, ⟨(some 77), (.ld (.one (.con (.slice none 0 0))) (.t 76)), none⟩, ⟨(some 78), (.mv (.t 6)), none⟩, ⟨(some 79), (.ia 2 (.agg [(1, (.str [])), (1, (.str []))]) (.t 77) (.t 78)), none⟩, ⟨(some 80), (.ld (.st 2) (.t 79)), none⟩, ⟨(some 81), (.fa 29 (.t 3)), none⟩, ⟨(some 82), (.ld (.one (.con (.slice none 0 0))) (.t 81)), none⟩, ⟨(some 83), (.mv (.t 6)), none⟩, ⟨(some 84), (.ia 2 (.agg [(1, (.str [])), (1, (.str []))]) (.t 82) (.t 83)), none⟩, ⟨(some 85), (.ld (.st 2) (.t 84)), none⟩, ⟨(some 86), (.eqS true [(0, ((.one (.str [])), 0)), (1, ((.one (.str [])), 0))] (.t 80) (.t 85)), none⟩]) (.cond (.t 86) (.seq (.reg none [⟨(some 4), (.mv (.c (.bool false))), none⟩]) .ret) .skip))) (.reg none [⟨(some 74), (.mv (.t 6)), none⟩, ⟨(some 75), (.bin .add (.t 74) (.c (.int .i64 1))), none⟩, ⟨(some 6), (.mv (.t 75)), none⟩])))
def t_rsame_0 : ACode := (.seq (.reg none [⟨(some 4), (.mv (.c (.bool true))), none⟩]) .ret)
def t_rsame_1 : ACode := (.seq (.seq (.reg none [⟨(some 6), (.mv (.c (.int .i64 0))), none⟩]) (.block 2 (.loop b_rsame_1))) t_rsame_0)
def c_rsame : ACode := (.seq (.reg none [⟨(some 2), (.box 28 31 (.t 0)), none⟩, ⟨(some 3), (.box 28 31 (.t 1)), none⟩, ⟨(some 4), (.mv (.c (.bool false))), none⟩]) (.seq (.seq (.reg none [⟨(some 7), (.fa 0 (.t 2)), none⟩, ⟨(some 8), (.ld (.arr 20) (.t 7)), none⟩, ⟨(some 9), (.fa 0 (.t 3)), none⟩, ⟨(some 10), (.ld (.arr 20) (.t 9)), none⟩, ⟨(some 11), (.eqA true 20 (.t 8) (.t 10)), none⟩, ⟨(some 12), (.mv (.t 11)), none⟩, ⟨(some 13), (.fa 21 (.t 2)), (some (12, false))⟩, ⟨(some 14), (.ld (.st 4) (.t 13)), (some (12, false))⟩, ⟨(some 15), (.fa 21 (.t 3)), (some (12, false))⟩, ⟨(some 16), (.ld (.st 4) (.t 15)), (some (12, false))⟩, ⟨(some 17), (.eqS true [(0, ((.one (.str [])), 0)), (1, ((.one (.str [])), 0)), (2, ((.one (.int .i64 0)), 1)), (3, ((.one (.str [])), 0))] (.t 14) (.t 16)), (some (12, false))⟩, ⟨(some 18), (.pick (.t 12) (.c (.bool true)) (.t 17)), none⟩, ⟨(some 19), (.mv (.t 18)), none⟩, ⟨(some 20), (.fa 25 (.t 2)), (some (19, false))⟩, ⟨(some 21), (.ld (.st 4) (.t 20)), (some (19, false))⟩, ⟨(some 22), (.fa 25 (.t 3)), (some (19, false))⟩, ⟨(some 23), (.ld (.st 4) (.t 22)), (some (19, false))⟩, ⟨(some 24), (.eqS true [(0, ((.one (.str [])), 0)), (1, ((.one (.str [])), 0)), (2, ((.one (.int .i64 0)), 1)), (3, ((.one (.str [])), 0))] (.t 21) (.t 23)), (some (19, false))⟩, ⟨(some 25), (.pick (.t 19) (.c (.bool true)) (.t 24)), none⟩, ⟨(some 26), (.mv (.t 25)), none⟩, ⟨(some 27), (.fa 30 (.t 2)), (some (26, false))⟩, ⟨(some 28), (.ld (.one (.str [])) (.t 27)), (some (26, false))⟩, ⟨(some 29), (.fa 30 (.t 3)), (some (26, false))⟩, ⟨(some 30), (.ld (.one (.str [])) (.t 29)), (some (26, false))⟩, ⟨(some 31), (.bin .neq (.t 28) (.t 30)), (some (26, false))⟩, ⟨(some 32), (.pick (.t 26) (.c (.bool true)) (.t 31)), none⟩, ⟨(some 33), (.mv (.t 32)), none⟩, ⟨(some 34), (.fa 20 (.t 2)), (some (33, false))⟩, ⟨(some 35), (.ld (.one (.con (.slice none 0 0))) (.t 34)), (some (33, false))⟩, ⟨(some 36), (.len none false (.t 35)), (some (33, false))⟩, ⟨(some 37), (.fa 20 (.t 3)), (some (33, false))⟩, ⟨(some 38), (.ld (.one (.con (.slice none 0 0))) (.t 37)), (some (33, false))⟩, ⟨(some 39), (.len none false (.t 38)), (some (33, false))⟩, ⟨(some 40), (.bin .neq (.t 36) (.t 39)), (some (33, false))⟩, ⟨(some 41), (.pick (.t 33) (.c (.bool true)) (.t 40)), none⟩, ⟨(some 42), (.mv (.t 41)), none⟩, ⟨(some 43), (.fa 29 (.t 2)), (some (42, false))⟩, ⟨(some 44), (.ld (.one (.con (.slice none 0 0))) (.t 43)), (some (42, false))⟩, ⟨(some 45), (.len none false (.t 44)), (some (42, false))⟩, ⟨(some 46), (.fa 29 (.t 3)), (some (42, false))⟩, ⟨(some 47), (.ld (.one (.con (.slice none 0 0))) (.t 46)), (some (42, false))⟩, ⟨(some 48), (.len none false (.t 47)), (some (42, false))⟩, ⟨(some 49), (.bin .neq (.t 45) (.t 48)), (some (42, false))⟩, ⟨(some 50), (.pick (.t 42) (.c (.bool true)) (.t 49)), none⟩]) (.cond (.t 50) (.seq (.reg none [⟨(some 4), (.mv (.c (.bool false))), none⟩]) .ret) .skip)) (.seq (.seq (.reg none [⟨(some 5), (.mv (.c (.int .i64 0))), none⟩]) (.block 0 (.loop b_rsame_0))) t_rsame_1)))
def r_rsame : List ARes := [(.t 4)]
theorem s_rsame : slimF Tryd.prog Tryd.f8 = some (c_rsame, r_rsame) := by kernel_rfl
end Go.Proofs.YtlkaaoekbmegkaaDoor
namespace Go.Proofs.YtlkaaoekbmegkaaDoor
set_option linter.all false
open Go.RowKit
def sameW (a b : WhoL) : Bool := decide (a.name = b.name) && (decide (a.mail = b.mail) && (decide (a.time = b.time) && (decide (a.zone = b.zone) && true)))
theorem sameW_iff {a b : WhoL} : sameW a b = true ↔ a = b := by
  cases a; cases b; simp [sameW]
def sameC (c d : ComL) : Bool := decide (c.tree = d.tree) && sameW c.author d.author && sameW c.committer d.committer && decide (c.message = d.message) && decide (c.parents = d.parents) && decide (c.extras = d.extras)
theorem sameC_iff {c d : ComL} : sameC c d = true ↔ c = d := by
  cases c; cases d; simp [sameC, sameW_iff]; constructor
  · rintro ⟨⟨⟨⟨⟨rfl, rfl⟩, rfl⟩, rfl⟩, rfl⟩, rfl⟩; simp
  · rintro ⟨rfl, rfl, rfl, rfl, rfl, rfl⟩; simp
def rsameS : Spec := fun xs hp => match xs, hp with
  | [.agg [(20, .blob t), (1, .sl kq ps), (1, .str an), (1, .str am), (1, .int .i64 at'), (1, .str az), (1, .str cn), (1, .str cm), (1, .int .i64 ct), (1, .str cz), (1, .sl ke es), (1, .str m)],
     .agg [(20, .blob t2), (1, .sl kq2 ps2), (1, .str an2), (1, .str am2), (1, .int .i64 at2), (1, .str az2), (1, .str cn2), (1, .str cm2), (1, .int .i64 ct2), (1, .str cz2), (1, .sl ke2 es2), (1, .str m2)]], [] =>
    some ⟨.bool (sameC ⟨unV t, ps.map unId, ⟨an, am, at', az⟩, ⟨cn, cm, ct, cz⟩, es.map unEx, m⟩ ⟨unV t2, ps2.map unId, ⟨an2, am2, at2, az2⟩, ⟨cn2, cm2, ct2, cz2⟩, es2.map unEx, m2⟩), [],
      (t = (unV t).map U ∧ ps = (ps.map unId).map idAV ∧ es = (es.map unEx).map exV ∧ (kq = 20 ∨ ps = []) ∧ (ke = 2 ∨ es = []) ∧ (unV t).length = 20 ∧ (∀ p ∈ ps.map unId, p.length = 20) ∧ ps.length ≤ 1000000 ∧ es.length ≤ 1000000) ∧
      (t2 = (unV t2).map U ∧ ps2 = (ps2.map unId).map idAV ∧ es2 = (es2.map unEx).map exV ∧ (kq2 = 20 ∨ ps2 = []) ∧ (ke2 = 2 ∨ es2 = []) ∧ (unV t2).length = 20 ∧ (∀ p ∈ ps2.map unId, p.length = 20) ∧ ps2.length ≤ 1000000 ∧ es2.length ≤ 1000000)⟩
  | _, _ => none
theorem take_eq_succ {α : Type} {l m : List α} {i : Nat} (h : l.take i = m.take i) (hi : i < l.length) (hj : i < m.length) (e : l[i] = m[i]) : l.take (i + 1) = m.take (i + 1) := by
  rw [List.take_add_one, List.take_add_one, h, List.getElem?_eq_getElem hi, List.getElem?_eq_getElem hj, e]
set_option maxHeartbeats 4000000 in
theorem rsame_ok : FnOk Tryd.prog 8 rsameS := by
  refine fn_slim2 Tryd.func8 s_rsame (Φ := phiL []) phi_nil ?_
  intro xs hp r hs hp'
  unfold rsameS at hs
  split at hs
  · injection hs with hs; subst hs
    rename_i t kq ps an am at' az cn cm ct cz ke es m t2 kq2 ps2 an2 am2 at2 az2 cn2 cm2 ct2 cz2 ke2 es2 m2
    obtain ⟨⟨q1, q2, q3, q4, q5, q6, q7, q8, q9⟩, w1, w2, w3, w4, w5, w6, w7, w8, w9⟩ := hp'
    generalize unV t = t at *
    subst q1
    generalize ps.map unId = ps at *
    subst q2
    generalize es.map unEx = es at *
    subst q3
    generalize unV t2 = t2 at *
    subst w1
    generalize ps2.map unId = ps2 at *
    subst w2
    generalize es2.map unEx = es2 at *
    subst w3
    rw [List.length_map] at q8 q9 w8 w9
    refine ⟨len_le (by kernel_rfl), ?_⟩
    have hsa : (decide (an = an2) && (decide (am = am2) && (decide (at' = at2) && decide (az = az2)))) = sameW ⟨an, am, at', az⟩ ⟨an2, am2, at2, az2⟩ := by unfold sameW; simp only [Bool.and_true]
    have hsc : (decide (cn = cn2) && (decide (cm = cm2) && (decide (ct = ct2) && decide (cz = cz2)))) = sameW ⟨cn, cm, ct, cz⟩ ⟨cn2, cm2, ct2, cz2⟩ := by unfold sameW; simp only [Bool.and_true]
    unfold sameC
    simp only
    cases h1 : decide (t = t2) with
    | false =>
      simp only [c_rsame, r_rsame, unV_U, h1, Bool.false_and, go_sem, Nat.reduceDiv, Nat.reduceMod, ↓reduceIte, Nat.reduceEqDiff, Nat.reduceBEq, Nat.reduceSub, Nat.reduceLT, Nat.reduceAdd, Nat.reduceLeDiff, reduceCtorEq, Int.reduceEq, Int.reduceNe, Int.reduceLT, Int.reduceLE, Int.reduceToNat]
      exact ⟨q6, w6⟩
    | true =>
    cases h2 : sameW ⟨an, am, at', az⟩ ⟨an2, am2, at2, az2⟩ with
    | false =>
      simp only [c_rsame, r_rsame, unV_U, h1, hsa, h2, Bool.false_and, Bool.and_false, go_sem, Nat.reduceDiv, Nat.reduceMod, ↓reduceIte, Nat.reduceEqDiff, Nat.reduceBEq, Nat.reduceSub, Nat.reduceLT, Nat.reduceAdd, Nat.reduceLeDiff, reduceCtorEq, Int.reduceEq, Int.reduceNe, Int.reduceLT, Int.reduceLE, Int.reduceToNat]
      exact ⟨q6, w6⟩
    | true =>
    cases h3 : sameW ⟨cn, cm, ct, cz⟩ ⟨cn2, cm2, ct2, cz2⟩ with
    | false =>
      simp only [c_rsame, r_rsame, unV_U, h1, hsa, hsc, h2, h3, Bool.false_and, Bool.and_false, go_sem, Nat.reduceDiv, Nat.reduceMod, ↓reduceIte, Nat.reduceEqDiff, Nat.reduceBEq, Nat.reduceSub, Nat.reduceLT, Nat.reduceAdd, Nat.reduceLeDiff, reduceCtorEq, Int.reduceEq, Int.reduceNe, Int.reduceLT, Int.reduceLE, Int.reduceToNat]
      exact ⟨q6, w6⟩
    | true =>
    cases h4 : decide (m = m2) with
    | false =>
      simp only [c_rsame, r_rsame, unV_U, h1, hsa, hsc, h2, h3, h4, Bool.false_and, Bool.and_false, go_sem, Nat.reduceDiv, Nat.reduceMod, ↓reduceIte, Nat.reduceEqDiff, Nat.reduceBEq, Nat.reduceSub, Nat.reduceLT, Nat.reduceAdd, Nat.reduceLeDiff, reduceCtorEq, Int.reduceEq, Int.reduceNe, Int.reduceLT, Int.reduceLE, Int.reduceToNat]
      exact ⟨q6, w6⟩
    | true =>
    by_cases h5 : ps.length = ps2.length
    rotate_left
    · have d5 : decide ((ps.length : Int) = (ps2.length : Int)) = false := decide_eq_false (by omega)
      have e : decide (ps = ps2) = false := decide_eq_false (by rintro rfl; exact h5 rfl)
      simp only [c_rsame, r_rsame, unV_U, h1, hsa, hsc, h2, h3, h4, d5, e, Bool.false_and, Bool.and_false, go_sem, Nat.reduceDiv, Nat.reduceMod, ↓reduceIte, Nat.reduceEqDiff, Nat.reduceBEq, Nat.reduceSub, Nat.reduceLT, Nat.reduceAdd, Nat.reduceLeDiff, reduceCtorEq, Int.reduceEq, Int.reduceNe, Int.reduceLT, Int.reduceLE, Int.reduceToNat]
      exact ⟨q6, w6⟩
    have d5 : decide ((ps.length : Int) = (ps2.length : Int)) = true := decide_eq_true (by omega)
    by_cases h6 : es.length = es2.length
    rotate_left
    · have d6 : decide ((es.length : Int) = (es2.length : Int)) = false := decide_eq_false (by omega)
      have e : decide (es = es2) = false := decide_eq_false (by rintro rfl; exact h6 rfl)
      simp only [c_rsame, r_rsame, unV_U, h1, hsa, hsc, h2, h3, h4, d5, d6, e, Bool.false_and, Bool.and_false, go_sem, Nat.reduceDiv, Nat.reduceMod, ↓reduceIte, Nat.reduceEqDiff, Nat.reduceBEq, Nat.reduceSub, Nat.reduceLT, Nat.reduceAdd, Nat.reduceLeDiff, reduceCtorEq, Int.reduceEq, Int.reduceNe, Int.reduceLT, Int.reduceLE, Int.reduceToNat]
      exact ⟨q6, w6⟩
    have d6 : decide ((es.length : Int) = (es2.length : Int)) = true := decide_eq_true (by omega)
    simp only [c_rsame, unV_U, h1, hsa, hsc, h2, h3, h4, d5, d6, Bool.true_and, go_sem, Nat.reduceDiv, Nat.reduceMod, ↓reduceIte, Nat.reduceEqDiff, Nat.reduceBEq, Nat.reduceSub, Nat.reduceLT, Nat.reduceAdd, Nat.reduceLeDiff, reduceCtorEq, Int.reduceEq, Int.reduceNe, Int.reduceLT, Int.reduceLE, Int.reduceToNat]
    refine ⟨⟨q6, w6⟩, ?_⟩
    refine loop2P [] [2, 3, 5] [0, 1] (fun i : Nat => ⟨[(2, .ref 0 0 0), (3, .ref 1 0 0), (5, .int .i64 (i : Int))],
      [.cells 28 [(20, .blob (t.map U)), (1, .sl kq (ps.map idAV)), (1, .str an), (1, .str am), (1, .int .i64 at'), (1, .str az), (1, .str cn), (1, .str cm), (1, .int .i64 ct), (1, .str cz), (1, .sl ke (es.map exV)), (1, .str m)],
       .cells 28 [(20, .blob (t2.map U)), (1, .sl kq2 (ps2.map idAV)), (1, .str an2), (1, .str am2), (1, .int .i64 at2), (1, .str az2), (1, .str cn2), (1, .str cm2), (1, .int .i64 ct2), (1, .str cz2), (1, .sl ke2 (es2.map exV)), (1, .str m2)]]⟩)
      (fun i => i ≤ ps.length ∧ ps.take i = ps2.take i) (fun i => ps.length - i) 0 rfl ⟨Nat.zero_le _, by simp⟩ ⟨rfl, by rfl⟩ (fun i hi R hR => ?_)
    obtain ⟨i1, i2⟩ := hi
    by_cases hil : i < ps.length
    · have c1 : decide ((i : Int) < (ps.length : Int)) = true := decide_eq_true (by omega)
      have hk : kq = 20 := q4.resolve_right (by intro h; have := congrArg List.length h; simp at this; rw [this] at hil; simp at hil)
      have hk2 : kq2 = 20 := w4.resolve_right (by intro h; have := congrArg List.length h; simp at this; rw [this] at h5; simp at h5; rw [h5] at hil; simp at hil)
      subst hk hk2
      have hget := getD_map idAV ps [] (.blob (List.replicate 20 (.int .u8 0))) hil
      have hga : ps.getD i [] = ps[i] := by simp [List.getD_eq_getElem?_getD, List.getElem?_eq_getElem hil]
      have hget2 := getD_map idAV ps2 [] (.blob (List.replicate 20 (.int .u8 0))) (show i < ps2.length by omega)
      have hga2 : ps2.getD i [] = ps2[i] := by simp [List.getD_eq_getElem?_getD, List.getElem?_eq_getElem (show i < ps2.length by omega)]
      have hl1 := q7 ps[i] (List.getElem_mem _)
      have hl2 := w7 ps2[i] (List.getElem_mem _)
      cases hx : decide (ps[i] = ps2[i]) with
      | false =>
        have e : decide (ps = ps2) = false := decide_eq_false (by rintro rfl; exact (of_decide_eq_false hx) rfl)
        rw [e, Bool.false_and]
        simp only [b_rsame_0, r_rsame, unV_U, c1, hget, hga, hget2, hga2, idAV, hx, hl1, hl2, Int.toNat_natCast, List.length_map, go_sem, Nat.reduceDiv, Nat.reduceMod, ↓reduceIte, Nat.reduceEqDiff, Nat.reduceBEq, Nat.reduceSub, Nat.reduceLT, Nat.reduceAdd, Nat.reduceLeDiff, reduceCtorEq, Int.reduceEq, Int.reduceNe, Int.reduceLT, Int.reduceLE, Int.reduceToNat]
        repeat' apply And.intro
        all_goals first | omega | rfl | trivial | skip
      | true =>
        simp only [b_rsame_0, r_rsame, unV_U, c1, hget, hga, hget2, hga2, idAV, hx, hl1, hl2, Int.toNat_natCast, List.length_map, go_sem, Nat.reduceDiv, Nat.reduceMod, ↓reduceIte, Nat.reduceEqDiff, Nat.reduceBEq, Nat.reduceSub, Nat.reduceLT, Nat.reduceAdd, Nat.reduceLeDiff, reduceCtorEq, Int.reduceEq, Int.reduceNe, Int.reduceLT, Int.reduceLE, Int.reduceToNat]
        refine ⟨⟨by omega, by omega⟩, ⟨by omega, by omega⟩, ⟨by omega, by omega⟩, hR _ (i + 1) ⟨by omega, take_eq_succ i2 hil (by omega) (of_decide_eq_true hx)⟩ (by omega) rfl⟩
    · have c1 : decide ((i : Int) < (ps.length : Int)) = false := decide_eq_false (by omega)
      have e1 : ps = ps2 := by
        rw [List.take_of_length_le (by omega), List.take_of_length_le (by omega)] at i2; exact i2
      have e : decide (ps = ps2) = true := decide_eq_true e1
      rw [e, Bool.true_and]
      simp only [b_rsame_0, t_rsame_1, c1, go_sem, Nat.reduceDiv, Nat.reduceMod, ↓reduceIte, Nat.reduceEqDiff, Nat.reduceBEq, Nat.reduceSub, Nat.reduceLT, Nat.reduceAdd, Nat.reduceLeDiff, reduceCtorEq, Int.reduceEq, Int.reduceNe, Int.reduceLT, Int.reduceLE, Int.reduceToNat]
      clear hR R
      refine loop2P [] [2, 3, 6] [0, 1] (fun i : Nat => ⟨[(2, .ref 0 0 0), (3, .ref 1 0 0), (6, .int .i64 (i : Int))],
        [.cells 28 [(20, .blob (t.map U)), (1, .sl kq (ps.map idAV)), (1, .str an), (1, .str am), (1, .int .i64 at'), (1, .str az), (1, .str cn), (1, .str cm), (1, .int .i64 ct), (1, .str cz), (1, .sl ke (es.map exV)), (1, .str m)],
         .cells 28 [(20, .blob (t2.map U)), (1, .sl kq2 (ps2.map idAV)), (1, .str an2), (1, .str am2), (1, .int .i64 at2), (1, .str az2), (1, .str cn2), (1, .str cm2), (1, .int .i64 ct2), (1, .str cz2), (1, .sl ke2 (es2.map exV)), (1, .str m2)]]⟩)
        (fun i => i ≤ es.length ∧ es.take i = es2.take i) (fun i => es.length - i) 0 rfl ⟨Nat.zero_le _, by simp⟩ ⟨rfl, by rfl⟩ (fun j hj R hR => ?_)
      obtain ⟨j1, j2⟩ := hj
      by_cases hjl : j < es.length
      · have c1 : decide ((j : Int) < (es.length : Int)) = true := decide_eq_true (by omega)
        have hk : ke = 2 := q5.resolve_right (by intro h; have := congrArg List.length h; simp at this; rw [this] at hjl; simp at hjl)
        have hk2 : ke2 = 2 := w5.resolve_right (by intro h; have := congrArg List.length h; simp at this; rw [this] at h6; simp at h6; rw [h6] at hjl; simp at hjl)
        subst hk hk2
        have hget := getD_map exV es ([], []) (.agg [(1, (.str [])), (1, (.str []))]) hjl
        have hga : es.getD j ([], []) = es[j] := by simp [List.getD_eq_getElem?_getD, List.getElem?_eq_getElem hjl]
        have hget2 := getD_map exV es2 ([], []) (.agg [(1, (.str [])), (1, (.str []))]) (show j < es2.length by omega)
        have hga2 : es2.getD j ([], []) = es2[j] := by simp [List.getD_eq_getElem?_getD, List.getElem?_eq_getElem (show j < es2.length by omega)]
        have hpe : (decide (es[j].1 = es2[j].1) && decide (es[j].2 = es2[j].2)) = decide (es[j] = es2[j]) := by
          rw [Bool.eq_iff_iff]; simp [Prod.ext_iff]
        cases hx : decide (es[j] = es2[j]) with
        | false =>
          have e : decide (es = es2) = false := decide_eq_false (by rintro rfl; exact (of_decide_eq_false hx) rfl)
          rw [e]
          simp only [b_rsame_1, r_rsame, c1, hget, hga, hget2, hga2, exV, hpe, hx, Int.toNat_natCast, go_sem, Nat.reduceDiv, Nat.reduceMod, ↓reduceIte, Nat.reduceEqDiff, Nat.reduceBEq, Nat.reduceSub, Nat.reduceLT, Nat.reduceAdd, Nat.reduceLeDiff, reduceCtorEq, Int.reduceEq, Int.reduceNe, Int.reduceLT, Int.reduceLE, Int.reduceToNat]
          repeat' apply And.intro
          all_goals first | omega | rfl | trivial | skip
        | true =>
          simp only [b_rsame_1, r_rsame, c1, hget, hga, hget2, hga2, exV, hpe, hx, Int.toNat_natCast, go_sem, Nat.reduceDiv, Nat.reduceMod, ↓reduceIte, Nat.reduceEqDiff, Nat.reduceBEq, Nat.reduceSub, Nat.reduceLT, Nat.reduceAdd, Nat.reduceLeDiff, reduceCtorEq, Int.reduceEq, Int.reduceNe, Int.reduceLT, Int.reduceLE, Int.reduceToNat]
          refine ⟨⟨by omega, by omega⟩, ⟨by omega, by omega⟩, ⟨by omega, by omega⟩, hR _ (j + 1) ⟨by omega, take_eq_succ j2 hjl (by omega) (of_decide_eq_true hx)⟩ (by omega) rfl⟩
      · have c1 : decide ((j : Int) < (es.length : Int)) = false := decide_eq_false (by omega)
        have e1 : es = es2 := by
          rw [List.take_of_length_le (by omega), List.take_of_length_le (by omega)] at j2; exact j2
        have e : decide (es = es2) = true := decide_eq_true e1
        rw [e]
        simp only [b_rsame_1, t_rsame_0, r_rsame, c1, go_sem, Nat.reduceDiv, Nat.reduceMod, ↓reduceIte, Nat.reduceEqDiff, Nat.reduceBEq, Nat.reduceSub, Nat.reduceLT, Nat.reduceAdd, Nat.reduceLeDiff, reduceCtorEq, Int.reduceEq, Int.reduceNe, Int.reduceLT, Int.reduceLE, Int.reduceToNat]
  · cases hs
end Go.Proofs.YtlkaaoekbmegkaaDoor
