import Derived.Test.YtlkaaoekbmegkaaGreatDoorQFCom7
import Derived.Test.YtlkaaoekbmegkaaGreatDoorQFNRight
namespace Go.Proofs.YtlkaaoekbmegkaaGreatDoor
set_option linter.all false
open Go.RowKit
open Go.Lib (index hasPrefix cut indexAny itoa)
def rtextS : Spec := fun xs hp => match xs, hp with
  | [.agg [(1, .str n), (1, .str m), (1, .int .i64 t), (1, .str z)]], [] => some ⟨.str (textW ⟨n, m, t, z⟩), [], n.length ≤ 1000000000000 ∧ m.length ≤ 1000000000000 ∧ z.length ≤ 1000000000000 ∧ inI t⟩
  | _, _ => none
theorem rtext_ok : FnOk Tryz.prog 18 rtextS := by
  refine fn_slim2 Tryz.func18 s_rtext (Φ := phiL [(43, [], itoaS)]) (phi_cons rdec_ok (by kernel_rfl) phi_nil) ?_
  intro xs hp r hs hp'
  unfold rtextS at hs
  split at hs
  · injection hs with hs; subst hs
    rename_i n m t z
    obtain ⟨p1, p2, p3, p4⟩ := hp'
    refine ⟨len_le (by kernel_rfl), ?_⟩
    have hi := Lib.itoa_length_le t p4.1 p4.2
    simp only [c_rtext, r_rtext, itoaS, textW, go_sem, Nat.reduceDiv, Nat.reduceMod, ↓reduceIte, Nat.reduceEqDiff, Nat.reduceBEq, Nat.reduceSub, Nat.reduceLT, Nat.reduceAdd, Nat.reduceLeDiff, reduceCtorEq, Int.reduceEq, Int.reduceNe, Int.reduceLT, Int.reduceLE, Int.reduceToNat]
    simp only [List.length_append, List.length_cons, List.length_nil]
    repeat' apply And.intro
    all_goals first | omega | rfl | exact p4 | exact p4.1 | exact p4.2 | (first | omega | (simp only [lenOk, bytesOk, inI, IntKind.bits, List.length_append, Bs_len, List.length_cons, List.length_nil, List.length_map, List.length_take, List.length_drop, List.length_replicate]; omega)) | (simp; done) | skip
  · cases hs
def rvalueS : Spec := fun xs hp => match xs, hp with
  | [.str s], [] => some ⟨.str (subst1 10 [10, 32] s), [], s.length ≤ 1000000000⟩
  | _, _ => none
theorem subst1_take {c : UInt8} {new s : List UInt8} {i : Nat} (h : i < s.length) : subst1 c new (s.take (i + 1)) = subst1 c new (s.take i) ++ (if s[i] = c then new else [s[i]]) := by
  rw [List.take_add_one, List.getElem?_eq_getElem h, Option.toList_some, subst1_app]
  simp [subst1]
theorem u8_10 {b : UInt8} : ((b.toNat : Int) = 10) ↔ b = 10 :=
  ⟨fun h => UInt8.toNat_inj.1 (by
    have h1 : b.toNat = 10 := by omega
    rw [h1]; rfl), fun h => by rw [h]; rfl⟩
theorem rvalue_ok : FnOk Tryz.prog 39 rvalueS := by
  refine fn_slim2 Tryz.func39 s_rvalue (Φ := phiL []) phi_nil ?_
  intro xs hp r hs hp'
  unfold rvalueS at hs
  split at hs
  · injection hs with hs; subst hs
    rename_i s
    have p1 : s.length ≤ 1000000000 := hp'
    refine ⟨len_le (by kernel_rfl), ?_⟩
    simp only [c_rvalue, go_sem, Nat.reduceDiv, Nat.reduceMod, ↓reduceIte, Nat.reduceEqDiff, Nat.reduceBEq, Nat.reduceSub, Nat.reduceLT, Nat.reduceAdd, Nat.reduceLeDiff, reduceCtorEq, Int.reduceEq, Int.reduceNe, Int.reduceLT, Int.reduceLE, Int.reduceToNat]
    refine loop2P [(3, 5, 1)] [0, 3, 4] [0] (fun q : Nat × Nat × List UInt8 => ⟨[(0, .str s), (3, .own 0 q.2.1), (4, .int .i64 (q.1 : Int))], [.row 5 1 q.2.1 (Bs q.2.2)]⟩) (fun q => q.1 ≤ s.length ∧ q.2.2 = subst1 10 [10, 32] (s.take q.1) ∧ q.2.2.length ≤ 2 * q.1) (fun q => s.length - q.1) (0, 0, []) rfl ⟨Nat.zero_le _, by simp [subst1], by simp⟩ ⟨rfl, by rfl⟩ (fun q hq R hR => ?_)
    obtain ⟨i, v, acc⟩ := q
    simp only at hq
    obtain ⟨i1, i2, i3⟩ := hq
    simp only at hR ⊢
    by_cases hil : i < s.length
    · have c1 : decide ((i : Int) < (s.length : Int)) = true := decide_eq_true (by omega)
      have hst := subst1_take (c := 10) (new := [10, 32]) hil
      have ha := at8_lit hil
      have hb1 : ∀ l : List UInt8, Bs l ++ [.int .u8 (((s[i]).toNat : Nat) : Int)] = Bs (l ++ [s[i]]) := fun l => Bs_push
      have hb2 : ∀ l : List UInt8, Bs l ++ [.int .u8 32] = Bs (l ++ [32]) := fun l => Bs_push (u := 32)
      by_cases h10 : s[i] = 10
      · have d : decide (((s[i]).toNat : Int) = 10) = true := decide_eq_true (by rw [h10]; rfl)
        rw [if_pos h10] at hst
        simp only [b_rvalue_0, c1, ha, d, hb1, hb2, Int.toNat_natCast, Bs_len, go_sem, Nat.reduceDiv, Nat.reduceMod, ↓reduceIte, Nat.reduceEqDiff, Nat.reduceBEq, Nat.reduceSub, Nat.reduceLT, Nat.reduceAdd, Nat.reduceLeDiff, reduceCtorEq, Int.reduceEq, Int.reduceNe, Int.reduceLT, Int.reduceLE, Int.reduceToNat]
        refine ⟨⟨by omega, by omega⟩, ⟨by (first | omega | (simp only [lenOk, bytesOk, inI, IntKind.bits, List.length_append, Bs_len, List.length_cons, List.length_nil, List.length_map, List.length_take, List.length_drop, List.length_replicate]; omega)), by (first | omega | (simp only [lenOk, bytesOk, inI, IntKind.bits, List.length_append, Bs_len, List.length_cons, List.length_nil, List.length_map, List.length_take, List.length_drop, List.length_replicate]; omega))⟩, ⟨by omega, by omega⟩, ⟨by (first | omega | (simp only [lenOk, bytesOk, inI, IntKind.bits, List.length_append, Bs_len, List.length_cons, List.length_nil, List.length_map, List.length_take, List.length_drop, List.length_replicate]; omega)), by (first | omega | (simp only [lenOk, bytesOk, inI, IntKind.bits, List.length_append, Bs_len, List.length_cons, List.length_nil, List.length_map, List.length_take, List.length_drop, List.length_replicate]; omega))⟩, ⟨by omega, by omega⟩, hR _ (i + 1, v + 1 + 1, acc ++ [s[i]] ++ [32]) ⟨by simp only; omega, ?_, ?_⟩ (by simp only; omega) rfl⟩
        · simp only; rw [hst, i2, h10, List.append_assoc]; rfl
        · simp only [List.length_append, List.length_cons, List.length_nil]; omega
      · have d : decide (((s[i]).toNat : Int) = 10) = false := decide_eq_false (fun h => h10 (u8_10.1 h))
        rw [if_neg h10] at hst
        simp only [b_rvalue_0, c1, ha, d, hb1, hb2, Int.toNat_natCast, Bs_len, go_sem, Nat.reduceDiv, Nat.reduceMod, ↓reduceIte, Nat.reduceEqDiff, Nat.reduceBEq, Nat.reduceSub, Nat.reduceLT, Nat.reduceAdd, Nat.reduceLeDiff, reduceCtorEq, Int.reduceEq, Int.reduceNe, Int.reduceLT, Int.reduceLE, Int.reduceToNat]
        refine ⟨⟨by omega, by omega⟩, ⟨by (first | omega | (simp only [lenOk, bytesOk, inI, IntKind.bits, List.length_append, Bs_len, List.length_cons, List.length_nil, List.length_map, List.length_take, List.length_drop, List.length_replicate]; omega)), by (first | omega | (simp only [lenOk, bytesOk, inI, IntKind.bits, List.length_append, Bs_len, List.length_cons, List.length_nil, List.length_map, List.length_take, List.length_drop, List.length_replicate]; omega))⟩, ⟨by omega, by omega⟩, ⟨by omega, by omega⟩, hR _ (i + 1, v + 1, acc ++ [s[i]]) ⟨by simp only; omega, ?_, ?_⟩ (by simp only; omega) rfl⟩
        · simp only; rw [hst, i2]
        · simp only [List.length_append, List.length_cons, List.length_nil]; omega
    · have c1 : decide ((i : Int) < (s.length : Int)) = false := decide_eq_false (by omega)
      have e : s.take i = s := List.take_of_length_le (by omega)
      rw [e] at i2
      subst i2
      simp only [b_rvalue_0, t_rvalue_0, r_rvalue, c1, unB_Bs, go_sem, Nat.reduceDiv, Nat.reduceMod, ↓reduceIte, Nat.reduceEqDiff, Nat.reduceBEq, Nat.reduceSub, Nat.reduceLT, Nat.reduceAdd, Nat.reduceLeDiff, reduceCtorEq, Int.reduceEq, Int.reduceNe, Int.reduceLT, Int.reduceLE, Int.reduceToNat]
  · cases hs
def rextraS : Spec := fun xs hp => match xs, hp with
  | [.agg [(1, .str k), (1, .str v)]], [] => some ⟨.bool (extraB k), [], k.length ≤ 1000000000000⟩
  | _, _ => none
theorem keyB_no {k : List UInt8} (h1 : k ≠ [116, 114, 101, 101]) (h2 : k ≠ [112, 97, 114, 101, 110, 116]) (h3 : k ≠ [97, 117, 116, 104, 111, 114]) (h4 : k ≠ [99, 111, 109, 109, 105, 116, 116, 101, 114]) : keyB k = false := by
  rw [← keyB_eq]; simp [h1, h2, h3, h4]
theorem rextra_ok : FnOk Tryz.prog 37 rextraS := by
  refine fn_slim2 Tryz.func37 s_rextra (Φ := phiL [(42, [], rhasS)]) (phi_cons rhas_ok (by kernel_rfl) phi_nil) ?_
  intro xs hp r hs hp'
  unfold rextraS at hs
  split at hs
  · injection hs with hs; subst hs
    rename_i k v
    have p1 : k.length ≤ 1000000000000 := hp'
    refine ⟨len_le (by kernel_rfl), ?_⟩
    by_cases h0 : k = []
    · subst h0
      simp only [c_rextra, r_rextra, decide_true, go_sem, Nat.reduceDiv, Nat.reduceMod, ↓reduceIte, Nat.reduceEqDiff, Nat.reduceBEq, Nat.reduceSub, Nat.reduceLT, Nat.reduceAdd, Nat.reduceLeDiff, reduceCtorEq, Int.reduceEq, Int.reduceNe, Int.reduceLT, Int.reduceLE, Int.reduceToNat]
      rfl
    · have d0 : decide (k = []) = false := decide_eq_false h0
      have d0' : decide (k ≠ []) = true := decide_eq_true h0
      unfold extraB
      rw [d0']
      cases hh : hasL [32, 10] k with
      | true =>
        simp only [c_rextra, r_rextra, rhasS, d0, hh, Bool.not_true, Bool.and_false, Bool.false_and, go_sem, Nat.reduceDiv, Nat.reduceMod, ↓reduceIte, Nat.reduceEqDiff, Nat.reduceBEq, Nat.reduceSub, Nat.reduceLT, Nat.reduceAdd, Nat.reduceLeDiff, reduceCtorEq, Int.reduceEq, Int.reduceNe, Int.reduceLT, Int.reduceLE, Int.reduceToNat]
        exact p1
      | false =>
        by_cases h1 : k = [116, 114, 101, 101]
        · have d1 : decide (k = [116, 114, 101, 101]) = true := decide_eq_true h1
          have e : keyB k = true := by rw [h1]; rfl
          simp only [c_rextra, r_rextra, rhasS, d0, d1, hh, e, Bool.not_true, Bool.and_false, go_sem, Nat.reduceDiv, Nat.reduceMod, ↓reduceIte, Nat.reduceEqDiff, Nat.reduceBEq, Nat.reduceSub, Nat.reduceLT, Nat.reduceAdd, Nat.reduceLeDiff, reduceCtorEq, Int.reduceEq, Int.reduceNe, Int.reduceLT, Int.reduceLE, Int.reduceToNat]
          exact p1
        have d1 : decide (k = [116, 114, 101, 101]) = false := decide_eq_false h1
        by_cases h2 : k = [112, 97, 114, 101, 110, 116]
        · have d2 : decide (k = [112, 97, 114, 101, 110, 116]) = true := decide_eq_true h2
          have e : keyB k = true := by rw [h2]; rfl
          simp only [c_rextra, r_rextra, rhasS, d0, d1, d2, hh, e, Bool.not_true, Bool.and_false, go_sem, Nat.reduceDiv, Nat.reduceMod, ↓reduceIte, Nat.reduceEqDiff, Nat.reduceBEq, Nat.reduceSub, Nat.reduceLT, Nat.reduceAdd, Nat.reduceLeDiff, reduceCtorEq, Int.reduceEq, Int.reduceNe, Int.reduceLT, Int.reduceLE, Int.reduceToNat]
          exact p1
        have d2 : decide (k = [112, 97, 114, 101, 110, 116]) = false := decide_eq_false h2
        by_cases h3 : k = [97, 117, 116, 104, 111, 114]
        · have d3 : decide (k = [97, 117, 116, 104, 111, 114]) = true := decide_eq_true h3
          have e : keyB k = true := by rw [h3]; rfl
          simp only [c_rextra, r_rextra, rhasS, d0, d1, d2, d3, hh, e, Bool.not_true, Bool.and_false, go_sem, Nat.reduceDiv, Nat.reduceMod, ↓reduceIte, Nat.reduceEqDiff, Nat.reduceBEq, Nat.reduceSub, Nat.reduceLT, Nat.reduceAdd, Nat.reduceLeDiff, reduceCtorEq, Int.reduceEq, Int.reduceNe, Int.reduceLT, Int.reduceLE, Int.reduceToNat]
          exact p1
        have d3 : decide (k = [97, 117, 116, 104, 111, 114]) = false := decide_eq_false h3
        by_cases h4 : k = [99, 111, 109, 109, 105, 116, 116, 101, 114]
        · have d4 : decide (k = [99, 111, 109, 109, 105, 116, 116, 101, 114]) = true := decide_eq_true h4
          have e : keyB k = true := by rw [h4]; rfl
          simp only [c_rextra, r_rextra, rhasS, d0, d1, d2, d3, d4, hh, e, Bool.not_true, Bool.and_false, go_sem, Nat.reduceDiv, Nat.reduceMod, ↓reduceIte, Nat.reduceEqDiff, Nat.reduceBEq, Nat.reduceSub, Nat.reduceLT, Nat.reduceAdd, Nat.reduceLeDiff, reduceCtorEq, Int.reduceEq, Int.reduceNe, Int.reduceLT, Int.reduceLE, Int.reduceToNat]
          exact p1
        have d4 : decide (k = [99, 111, 109, 109, 105, 116, 116, 101, 114]) = false := decide_eq_false h4
        have e := keyB_no h1 h2 h3 h4
        simp only [c_rextra, r_rextra, rhasS, d0, d1, d2, d3, d4, hh, e, Bool.not_false, Bool.and_true, go_sem, Nat.reduceDiv, Nat.reduceMod, ↓reduceIte, Nat.reduceEqDiff, Nat.reduceBEq, Nat.reduceSub, Nat.reduceLT, Nat.reduceAdd, Nat.reduceLeDiff, reduceCtorEq, Int.reduceEq, Int.reduceNe, Int.reduceLT, Int.reduceLE, Int.reduceToNat]
        exact p1
  · cases hs
def rrightS11 : Spec := fun xs hp => match xs, hp with
  | [.agg [(20, .blob t), (1, .sl kq ps), (1, .str an), (1, .str am), (1, .int .i64 at'), (1, .str az), (1, .str cn), (1, .str cm), (1, .int .i64 ct), (1, .str cz), (1, .sl ke es), (1, .str m)]], [] =>
    some ⟨.bool (rightC ⟨unV t, ps.map unId, ⟨an, am, at', az⟩, ⟨cn, cm, ct, cz⟩, es.map unEx, m⟩), [], es = (es.map unEx).map exV ∧ (ke = 2 ∨ es = []) ∧ es.length ≤ 1000000 ∧ (∀ x ∈ es.map unEx, x.1.length ≤ 1000000000000) ∧ an.length + am.length + az.length ≤ 1000000000 ∧ cn.length + cm.length + cz.length ≤ 1000000000⟩
  | _, _ => none
theorem rright11_ok : FnOk Tryz.prog 10 rrightS11 := by
  refine fn_slim2 Tryz.func10 s_rright11 (Φ := phiL [(37, [], rextraS), (16, [], rpersonS)]) (phi_cons rextra_ok (by kernel_rfl) (phi_cons rperson_ok (by kernel_rfl) phi_nil)) ?_
  intro xs hp r hs hp'
  unfold rrightS11 at hs
  split at hs
  · injection hs with hs; subst hs
    rename_i t kq ps an am at' az cn cm ct cz ke es m
    obtain ⟨q1, q2, q3, q4, q5, q6⟩ := hp'
    generalize unV t = t1 at *
    generalize ps.map unId = ps1 at *
    generalize es.map unEx = es at *
    subst q1
    rw [List.length_map] at q3
    refine ⟨len_le (by kernel_rfl), ?_⟩
    simp only [c_rright11, go_sem, Nat.reduceDiv, Nat.reduceMod, ↓reduceIte, Nat.reduceEqDiff, Nat.reduceBEq, Nat.reduceSub, Nat.reduceLT, Nat.reduceAdd, Nat.reduceLeDiff, reduceCtorEq, Int.reduceEq, Int.reduceNe, Int.reduceLT, Int.reduceLE, Int.reduceToNat]
    refine loop2P [] [1, 3] [0] (fun i : Nat => ⟨[(1, .ref 0 0 0), (3, .int .i64 (i : Int))], [.cells 28 [(20, .blob t), (1, .sl kq ps), (1, .str an), (1, .str am), (1, .int .i64 at'), (1, .str az), (1, .str cn), (1, .str cm), (1, .int .i64 ct), (1, .str cz), (1, .sl ke (es.map exV)), (1, .str m)]]⟩) (fun i => i ≤ es.length ∧ ∀ x ∈ es.take i, badE x = false) (fun i => es.length - i) 0 rfl ⟨by omega, by simp⟩ ⟨rfl, by rfl⟩ (fun i hi R hR => ?_)
    obtain ⟨i1, i2⟩ := hi
    by_cases hil : i < es.length
    · have c1 : decide ((i : Int) < (es.length : Int)) = true := decide_eq_true (by omega)
      have hk : ke = 2 := q2.resolve_right (by intro h; have := congrArg List.length h; simp at this; rw [this] at hil; simp at hil)
      subst hk
      have hget := getD_map exV es ([], []) (.agg [(1, (.str [])), (1, (.str []))]) hil
      have hga : es.getD i ([], []) = es[i] := by simp [List.getD_eq_getElem?_getD, List.getElem?_eq_getElem hil]
      have hlen := q4 es[i] (List.getElem_mem _)
      cases hx : extraB es[i].1 with
      | false =>
        have hb : es.any badE = true := List.any_eq_true.2 ⟨es[i], List.getElem_mem _, by unfold badE; rw [hx]; rfl⟩
        rw [rightC_e (c := ⟨t1, ps1, ⟨an, am, at', az⟩, ⟨cn, cm, ct, cz⟩, es, m⟩) hb]
        simp only [b_rright11_0, r_rright11, rextraS, c1, hget, hga, exV, hx, Int.toNat_natCast, go_sem, Nat.reduceDiv, Nat.reduceMod, ↓reduceIte, Nat.reduceEqDiff, Nat.reduceBEq, Nat.reduceSub, Nat.reduceLT, Nat.reduceAdd, Nat.reduceLeDiff, reduceCtorEq, Int.reduceEq, Int.reduceNe, Int.reduceLT, Int.reduceLE, Int.reduceToNat]
        exact ⟨⟨by omega, by omega⟩, hlen⟩
      | true =>
        simp only [b_rright11_0, r_rright11, rextraS, c1, hget, hga, exV, hx, Int.toNat_natCast, go_sem, Nat.reduceDiv, Nat.reduceMod, ↓reduceIte, Nat.reduceEqDiff, Nat.reduceBEq, Nat.reduceSub, Nat.reduceLT, Nat.reduceAdd, Nat.reduceLeDiff, reduceCtorEq, Int.reduceEq, Int.reduceNe, Int.reduceLT, Int.reduceLE, Int.reduceToNat]
        refine ⟨⟨by omega, by omega⟩, hlen, ⟨by omega, by omega⟩, hR _ (i + 1) ⟨by omega, fun x hx2 => ?_⟩ (by omega) rfl⟩
        rw [List.take_add_one, List.getElem?_eq_getElem hil, Option.toList_some, List.mem_append, List.mem_singleton] at hx2
        rcases hx2 with hx2 | rfl
        · exact i2 x hx2
        · unfold badE; rw [hx]; rfl
    · have c1 : decide ((i : Int) < (es.length : Int)) = false := decide_eq_false (by omega)
      have e : es.take i = es := List.take_of_length_le (by omega)
      rw [e] at i2
      have hb : es.any badE = false := by
        rw [List.any_eq_false]; intro x hx; rw [i2 x hx]; simp
      unfold rightC
      simp only [hb, Bool.not_false, Bool.and_true]
      cases h1 : rightW ⟨an, am, at', az⟩
      all_goals (
        simp only [b_rright11_0, t_rright11_0, r_rright11, rpersonS, c1, h1, Bool.false_and, Bool.true_and, go_sem, Nat.reduceDiv, Nat.reduceMod, ↓reduceIte, Nat.reduceEqDiff, Nat.reduceBEq, Nat.reduceSub, Nat.reduceLT, Nat.reduceAdd, Nat.reduceLeDiff, reduceCtorEq, Int.reduceEq, Int.reduceNe, Int.reduceLT, Int.reduceLE, Int.reduceToNat]
        repeat' apply And.intro
        all_goals first | omega | rfl | trivial)
  · cases hs
end Go.Proofs.YtlkaaoekbmegkaaGreatDoor
namespace Go.Proofs.YtlkaaoekbmegkaaGreatDoor
set_option linter.all false
open Go.RowKit
open Go.Lib (index hasPrefix cut indexAny itoa)
end Go.Proofs.YtlkaaoekbmegkaaGreatDoor
namespace Go.Proofs.YtlkaaoekbmegkaaGreatDoor
set_option linter.all false
open Go.RowKit
open Go.Lib (index hasPrefix cut indexAny itoa)
def rprnS : Spec := fun xs hp => match xs, hp with
  | [.agg [(20, .blob t), (1, .sl kq ps), (1, .str an), (1, .str am), (1, .int .i64 at'), (1, .str az), (1, .str cn), (1, .str cm), (1, .int .i64 ct), (1, .str cz), (1, .sl ke es), (1, .str m)]], [] =>
    some ⟨.str (bodyC ⟨unV t, ps.map unId, ⟨an, am, at', az⟩, ⟨cn, cm, ct, cz⟩, es.map unEx, m⟩), [], t = (unV t).map U ∧ ps = (ps.map unId).map idAV ∧ es = (es.map unEx).map exV ∧ (kq = 20 ∨ ps = []) ∧ (ke = 2 ∨ es = []) ∧ sizeOkC ⟨unV t, ps.map unId, ⟨an, am, at', az⟩, ⟨cn, cm, ct, cz⟩, es.map unEx, m⟩ ∧ inI at' ∧ inI ct⟩
  | _, _ => none
set_option maxHeartbeats 2000000 in
theorem rprn_ok : FnOk Tryz.prog 12 rprnS := by
  refine fn_slim2 Tryz.func12 s_rprn (Φ := phiL [(38, [], rhexS), (18, [], rtextS), (39, [], rvalueS)]) (phi_cons rhex_ok (by kernel_rfl) (phi_cons rtext_ok (by kernel_rfl) (phi_cons rvalue_ok (by kernel_rfl) phi_nil))) ?_
  intro xs hp r hs hp'
  unfold rprnS at hs
  split at hs
  · injection hs with hs; subst hs
    rename_i t kq ps an am at' az cn cm ct cz ke es m
    obtain ⟨q1, q2, q3, q4, q5, q6, q7, q8⟩ := hp'
    generalize unV t = t at *
    subst q1
    generalize ps.map unId = ps at *
    subst q2
    generalize es.map unEx = es at *
    subst q3
    obtain ⟨z1, z2, z3, z0, z4, z5, z6, z7⟩ := q6
    simp only at z0 z1 z2 z3 z4 z5 z6 z7
    refine ⟨len_le (by kernel_rfl), ?_⟩
    have hh := hexL_length t
    unfold bodyC at z1
    simp only at z1
    unfold printC at z1
    simp only [List.length_append] at z1
    have hhc : (headC t).length = 6 + (hexL t).length := by simp only [headC, List.length_append, List.length_cons, List.length_nil]; omega
    simp only [c_rprn, rhexS, unV_U, hexI_eq, go_sem, Nat.reduceDiv, Nat.reduceMod, ↓reduceIte, Nat.reduceEqDiff, Nat.reduceBEq, Nat.reduceSub, Nat.reduceLT, Nat.reduceAdd, Nat.reduceLeDiff, reduceCtorEq, Int.reduceEq, Int.reduceNe, Int.reduceLT, Int.reduceLE, Int.reduceToNat]
    refine ⟨z2, by (first | omega | (simp only [lenOk, bytesOk, inI, IntKind.bits, List.length_append, Bs_len, List.length_cons, List.length_nil, List.length_map, List.length_take, List.length_drop, List.length_replicate]; omega)), by (first | omega | (simp only [lenOk, bytesOk, inI, IntKind.bits, List.length_append, Bs_len, List.length_cons, List.length_nil, List.length_map, List.length_take, List.length_drop, List.length_replicate]; omega)), ?_⟩
    refine loop2P [] [1, 3, 4] [0] (fun q : Nat × List UInt8 => ⟨[(1, .ref 0 0 0), (3, .str q.2), (4, .int .i64 (q.1 : Int))],
      [.cells 28 [(20, .blob (t.map U)), (1, .sl kq (ps.map idAV)), (1, .str an), (1, .str am), (1, .int .i64 at'), (1, .str az), (1, .str cn), (1, .str cm), (1, .int .i64 ct), (1, .str cz), (1, .sl ke (es.map exV)), (1, .str m)]]⟩)
      (fun q => q.1 ≤ ps.length ∧ q.2 = headC t ++ (ps.take q.1).flatMap parL) (fun q => ps.length - q.1) (0, headC t) rfl ⟨Nat.zero_le _, by simp⟩ ⟨rfl, by rfl⟩ (fun q hq R hR => ?_)
    obtain ⟨i, acc⟩ := q
    simp only at hq
    obtain ⟨hi, rfl⟩ := hq
    simp only at hi hR ⊢
    have hle := flatMap_take_le parL ps i
    by_cases hil : i < ps.length
    · have c1 : decide ((i : Int) < (ps.length : Int)) = true := decide_eq_true (by omega)
      have hk : kq = 20 := q4.resolve_right (by intro h; have := congrArg List.length h; simp at this; rw [this] at hil; simp at hil)
      subst hk
      have hget := getD_map idAV ps [] (.blob (List.replicate 20 (.int .u8 0))) hil
      have hga : ps.getD i [] = ps[i] := by simp [List.getD_eq_getElem?_getD, List.getElem?_eq_getElem hil]
      have hlen := z3 ps[i] (List.getElem_mem _)
      have hhx := hexL_length ps[i]
      have hle2 := flatMap_take_le parL ps (i + 1)
      rw [← flatMap_take parL ps hil, List.length_append] at hle2
      have hpl : (parL ps[i]).length = 8 + (hexL ps[i]).length := by simp only [parL, List.length_append, List.length_cons, List.length_nil]; omega
      simp only [b_rprn_0, rhexS, unV_U, hexI_eq, c1, hget, hga, idAV, Int.toNat_natCast, List.length_map, hlen, go_sem, Nat.reduceDiv, Nat.reduceMod, ↓reduceIte, Nat.reduceEqDiff, Nat.reduceBEq, Nat.reduceSub, Nat.reduceLT, Nat.reduceAdd, Nat.reduceLeDiff, reduceCtorEq, Int.reduceEq, Int.reduceNe, Int.reduceLT, Int.reduceLE, Int.reduceToNat]
      refine ⟨by (first | omega | (simp only [lenOk, bytesOk, inI, IntKind.bits, List.length_append, Bs_len, List.length_cons, List.length_nil, List.length_map, List.length_take, List.length_drop, List.length_replicate]; omega)), ⟨by omega, by omega⟩, by (first | omega | (simp only [lenOk, bytesOk, inI, IntKind.bits, List.length_append, Bs_len, List.length_cons, List.length_nil, List.length_map, List.length_take, List.length_drop, List.length_replicate]; omega)), by (first | omega | (simp only [lenOk, bytesOk, inI, IntKind.bits, List.length_append, Bs_len, List.length_cons, List.length_nil, List.length_map, List.length_take, List.length_drop, List.length_replicate]; omega)), ⟨by omega, by omega⟩, hR _ (i + 1, headC t ++ (ps.take (i + 1)).flatMap parL) ⟨by simp only; omega, rfl⟩ (by simp only; omega) ?_⟩
      simp only
      have e : headC t ++ (ps.take (i + 1)).flatMap parL = headC t ++ (ps.take i).flatMap parL ++ [112, 97, 114, 101, 110, 116, 32] ++ hexL ps[i] ++ [10] := by
        rw [← flatMap_take parL ps hil]; simp [parL]
      rw [e]
      rfl
    · have c1 : decide ((i : Int) < (ps.length : Int)) = false := decide_eq_false (by omega)
      obtain rfl : i = ps.length := by omega
      rw [List.take_length]
      have hmc : (midC (textW ⟨an, am, at', az⟩) (textW ⟨cn, cm, ct, cz⟩)).length = 19 + (textW ⟨an, am, at', az⟩).length + (textW ⟨cn, cm, ct, cz⟩).length := by simp only [midC, List.length_append, List.length_cons, List.length_nil]; omega
      simp only [b_rprn_0, t_rprn_1, rtextS, c1, go_sem, Nat.reduceDiv, Nat.reduceMod, ↓reduceIte, Nat.reduceEqDiff, Nat.reduceBEq, Nat.reduceSub, Nat.reduceLT, Nat.reduceAdd, Nat.reduceLeDiff, reduceCtorEq, Int.reduceEq, Int.reduceNe, Int.reduceLT, Int.reduceLE, Int.reduceToNat]
      generalize ga : textW ⟨an, am, at', az⟩ = a at *
      generalize gb : textW ⟨cn, cm, ct, cz⟩ = b at *
      refine ⟨by (first | omega | (simp only [lenOk, bytesOk, inI, IntKind.bits, List.length_append, Bs_len, List.length_cons, List.length_nil, List.length_map, List.length_take, List.length_drop, List.length_replicate]; omega)), ⟨by omega, by omega, by omega, q7⟩, by (first | omega | (simp only [lenOk, bytesOk, inI, IntKind.bits, List.length_append, Bs_len, List.length_cons, List.length_nil, List.length_map, List.length_take, List.length_drop, List.length_replicate]; omega)), by (first | omega | (simp only [lenOk, bytesOk, inI, IntKind.bits, List.length_append, Bs_len, List.length_cons, List.length_nil, List.length_map, List.length_take, List.length_drop, List.length_replicate]; omega)), by (first | omega | (simp only [lenOk, bytesOk, inI, IntKind.bits, List.length_append, Bs_len, List.length_cons, List.length_nil, List.length_map, List.length_take, List.length_drop, List.length_replicate]; omega)), ⟨by omega, by omega, by omega, q8⟩, by (first | omega | (simp only [lenOk, bytesOk, inI, IntKind.bits, List.length_append, Bs_len, List.length_cons, List.length_nil, List.length_map, List.length_take, List.length_drop, List.length_replicate]; omega)), by (first | omega | (simp only [lenOk, bytesOk, inI, IntKind.bits, List.length_append, Bs_len, List.length_cons, List.length_nil, List.length_map, List.length_take, List.length_drop, List.length_replicate]; omega)), ?_⟩
      clear hR R
      have eM : headC t ++ ps.flatMap parL ++ [97, 117, 116, 104, 111, 114, 32] ++ a ++ [10] ++ [99, 111, 109, 109, 105, 116, 116, 101, 114, 32] ++ b ++ [10] = headC t ++ ps.flatMap parL ++ midC a b := by simp [midC]
      rw [eM]
      refine loop2P [] [1, 3, 5] [0] (fun q : Nat × List UInt8 => ⟨[(1, .ref 0 0 0), (3, .str q.2), (5, .int .i64 (q.1 : Int))],
        [.cells 28 [(20, .blob (t.map U)), (1, .sl kq (ps.map idAV)), (1, .str an), (1, .str am), (1, .int .i64 at'), (1, .str az), (1, .str cn), (1, .str cm), (1, .int .i64 ct), (1, .str cz), (1, .sl ke (es.map exV)), (1, .str m)]]⟩)
        (fun q => q.1 ≤ es.length ∧ q.2 = headC t ++ ps.flatMap parL ++ midC a b ++ (es.take q.1).flatMap exL) (fun q => es.length - q.1) (0, headC t ++ ps.flatMap parL ++ midC a b) (by rfl) ⟨Nat.zero_le _, by simp⟩ ⟨rfl, by rfl⟩ (fun q hq R hR => ?_)
      obtain ⟨j, acc⟩ := q
      simp only at hq
      obtain ⟨hj, rfl⟩ := hq
      simp only at hj hR ⊢
      have hle := flatMap_take_le exL es j
      by_cases hjl : j < es.length
      · have c1 : decide ((j : Int) < (es.length : Int)) = true := decide_eq_true (by omega)
        have hk : ke = 2 := q5.resolve_right (by intro h; have := congrArg List.length h; simp at this; rw [this] at hjl; simp at hjl)
        subst hk
        have hget := getD_map exV es ([], []) (.agg [(1, (.str [])), (1, (.str []))]) hjl
        have hga : es.getD j ([], []) = es[j] := by simp [List.getD_eq_getElem?_getD, List.getElem?_eq_getElem hjl]
        obtain ⟨l1, l2⟩ := z5 es[j] (List.getElem_mem _)
        have hle2 := flatMap_take_le exL es (j + 1)
        rw [← flatMap_take exL es hjl, List.length_append] at hle2
        have hpl : (exL es[j]).length = es[j].1.length + (subst1 10 [10, 32] es[j].2).length + 2 := by simp only [exL, List.length_append, List.length_cons, List.length_nil]; omega
        simp only [b_rprn_1, rvalueS, c1, hget, hga, exV, Int.toNat_natCast, go_sem, Nat.reduceDiv, Nat.reduceMod, ↓reduceIte, Nat.reduceEqDiff, Nat.reduceBEq, Nat.reduceSub, Nat.reduceLT, Nat.reduceAdd, Nat.reduceLeDiff, reduceCtorEq, Int.reduceEq, Int.reduceNe, Int.reduceLT, Int.reduceLE, Int.reduceToNat]
        refine ⟨⟨by omega, by omega⟩, by (first | omega | (simp only [lenOk, bytesOk, inI, IntKind.bits, List.length_append, Bs_len, List.length_cons, List.length_nil, List.length_map, List.length_take, List.length_drop, List.length_replicate]; omega)), by (first | omega | (simp only [lenOk, bytesOk, inI, IntKind.bits, List.length_append, Bs_len, List.length_cons, List.length_nil, List.length_map, List.length_take, List.length_drop, List.length_replicate]; omega)), ⟨by omega, by omega⟩, by omega, by (first | omega | (simp only [lenOk, bytesOk, inI, IntKind.bits, List.length_append, Bs_len, List.length_cons, List.length_nil, List.length_map, List.length_take, List.length_drop, List.length_replicate]; omega)), by (first | omega | (simp only [lenOk, bytesOk, inI, IntKind.bits, List.length_append, Bs_len, List.length_cons, List.length_nil, List.length_map, List.length_take, List.length_drop, List.length_replicate]; omega)), ⟨by omega, by omega⟩, hR _ (j + 1, headC t ++ ps.flatMap parL ++ midC a b ++ (es.take (j + 1)).flatMap exL) ⟨by simp only; omega, rfl⟩ (by simp only; omega) ?_⟩
        simp only
        have e : headC t ++ ps.flatMap parL ++ midC a b ++ (es.take (j + 1)).flatMap exL = headC t ++ ps.flatMap parL ++ midC a b ++ (es.take j).flatMap exL ++ es[j].1 ++ [32] ++ subst1 10 [10, 32] es[j].2 ++ [10] := by
          rw [← flatMap_take exL es hjl]; simp [exL]
        rw [e]
        rfl
      · have c1 : decide ((j : Int) < (es.length : Int)) = false := decide_eq_false (by omega)
        obtain rfl : j = es.length := by omega
        rw [List.take_length]
        simp only [b_rprn_1, t_rprn_0, r_rprn, c1, go_sem, Nat.reduceDiv, Nat.reduceMod, ↓reduceIte, Nat.reduceEqDiff, Nat.reduceBEq, Nat.reduceSub, Nat.reduceLT, Nat.reduceAdd, Nat.reduceLeDiff, reduceCtorEq, Int.reduceEq, Int.reduceNe, Int.reduceLT, Int.reduceLE, Int.reduceToNat]
        refine ⟨by (first | omega | (simp only [lenOk, bytesOk, inI, IntKind.bits, List.length_append, Bs_len, List.length_cons, List.length_nil, List.length_map, List.length_take, List.length_drop, List.length_replicate]; omega)), by (first | omega | (simp only [lenOk, bytesOk, inI, IntKind.bits, List.length_append, Bs_len, List.length_cons, List.length_nil, List.length_map, List.length_take, List.length_drop, List.length_replicate]; omega)), ?_⟩
        unfold bodyC printC
        simp only [ga, gb]
        simp
  · cases hs
end Go.Proofs.YtlkaaoekbmegkaaGreatDoor
namespace Go.Proofs.YtlkaaoekbmegkaaGreatDoor
set_option linter.all false
open Go.RowKit
def sameW (a b : WhoL) : Bool := decide (a.name = b.name) && (decide (a.mail = b.mail) && (decide (a.time = b.time) && (decide (a.zone = b.zone) && true)))
theorem sameW_iff {a b : WhoL} : sameW a b = true ↔ a = b := by
  cases a; cases b; simp [sameW]
def sameC (c d : ComL) : Bool := decide (c.tree = d.tree) && sameW c.author d.author && sameW c.committer d.committer && decide (c.message = d.message) && decide (c.parents = d.parents) && decide (c.extras = d.extras)
theorem sameC_iff {c d : ComL} : sameC c d = true ↔ c = d := by
  cases c; cases d; simp [sameC, sameW_iff]; constructor
  · rintro ⟨⟨⟨⟨⟨rfl, rfl⟩, rfl⟩, rfl⟩, rfl⟩, rfl⟩; simp
  · rintro ⟨rfl, rfl, rfl, rfl, rfl, rfl⟩; simp
def rsameS : Spec := fun xs hp => match xs, hp with
  | [.agg [(20, .blob t), (1, .sl kq ps), (1, .str an), (1, .str am), (1, .int .i64 at'), (1, .str az), (1, .str cn), (1, .str cm), (1, .int .i64 ct), (1, .str cz), (1, .sl ke es), (1, .str m)],
     .agg [(20, .blob t2), (1, .sl kq2 ps2), (1, .str an2), (1, .str am2), (1, .int .i64 at2), (1, .str az2), (1, .str cn2), (1, .str cm2), (1, .int .i64 ct2), (1, .str cz2), (1, .sl ke2 es2), (1, .str m2)]], [] =>
    some ⟨.bool (sameC ⟨unV t, ps.map unId, ⟨an, am, at', az⟩, ⟨cn, cm, ct, cz⟩, es.map unEx, m⟩ ⟨unV t2, ps2.map unId, ⟨an2, am2, at2, az2⟩, ⟨cn2, cm2, ct2, cz2⟩, es2.map unEx, m2⟩), [],
      (t = (unV t).map U ∧ ps = (ps.map unId).map idAV ∧ es = (es.map unEx).map exV ∧ (kq = 20 ∨ ps = []) ∧ (ke = 2 ∨ es = []) ∧ (unV t).length = 20 ∧ (∀ p ∈ ps.map unId, p.length = 20) ∧ ps.length ≤ 1000000 ∧ es.length ≤ 1000000) ∧
      (t2 = (unV t2).map U ∧ ps2 = (ps2.map unId).map idAV ∧ es2 = (es2.map unEx).map exV ∧ (kq2 = 20 ∨ ps2 = []) ∧ (ke2 = 2 ∨ es2 = []) ∧ (unV t2).length = 20 ∧ (∀ p ∈ ps2.map unId, p.length = 20) ∧ ps2.length ≤ 1000000 ∧ es2.length ≤ 1000000)⟩
  | _, _ => none
theorem take_eq_succ {α : Type} {l m : List α} {i : Nat} (h : l.take i = m.take i) (hi : i < l.length) (hj : i < m.length) (e : l[i] = m[i]) : l.take (i + 1) = m.take (i + 1) := by
  rw [List.take_add_one, List.take_add_one, h, List.getElem?_eq_getElem hi, List.getElem?_eq_getElem hj, e]
set_option maxHeartbeats 4000000 in
theorem rsame_ok : FnOk Tryz.prog 13 rsameS := by
  refine fn_slim2 Tryz.func13 s_rsame (Φ := phiL []) phi_nil ?_
  intro xs hp r hs hp'
  unfold rsameS at hs
  split at hs
  · injection hs with hs; subst hs
    rename_i t kq ps an am at' az cn cm ct cz ke es m t2 kq2 ps2 an2 am2 at2 az2 cn2 cm2 ct2 cz2 ke2 es2 m2
    obtain ⟨⟨q1, q2, q3, q4, q5, q6, q7, q8, q9⟩, w1, w2, w3, w4, w5, w6, w7, w8, w9⟩ := hp'
    generalize unV t = t at *
    subst q1
    generalize ps.map unId = ps at *
    subst q2
    generalize es.map unEx = es at *
    subst q3
    generalize unV t2 = t2 at *
    subst w1
    generalize ps2.map unId = ps2 at *
    subst w2
    generalize es2.map unEx = es2 at *
    subst w3
    rw [List.length_map] at q8 q9 w8 w9
    refine ⟨len_le (by kernel_rfl), ?_⟩
    have hsa : (decide (an = an2) && (decide (am = am2) && (decide (at' = at2) && decide (az = az2)))) = sameW ⟨an, am, at', az⟩ ⟨an2, am2, at2, az2⟩ := by unfold sameW; simp only [Bool.and_true]
    have hsc : (decide (cn = cn2) && (decide (cm = cm2) && (decide (ct = ct2) && decide (cz = cz2)))) = sameW ⟨cn, cm, ct, cz⟩ ⟨cn2, cm2, ct2, cz2⟩ := by unfold sameW; simp only [Bool.and_true]
    unfold sameC
    simp only
    cases h1 : decide (t = t2) with
    | false =>
      simp only [c_rsame, r_rsame, unV_U, h1, Bool.false_and, go_sem, Nat.reduceDiv, Nat.reduceMod, ↓reduceIte, Nat.reduceEqDiff, Nat.reduceBEq, Nat.reduceSub, Nat.reduceLT, Nat.reduceAdd, Nat.reduceLeDiff, reduceCtorEq, Int.reduceEq, Int.reduceNe, Int.reduceLT, Int.reduceLE, Int.reduceToNat]
      exact ⟨q6, w6⟩
    | true =>
    cases h2 : sameW ⟨an, am, at', az⟩ ⟨an2, am2, at2, az2⟩ with
    | false =>
      simp only [c_rsame, r_rsame, unV_U, h1, hsa, h2, Bool.false_and, Bool.and_false, go_sem, Nat.reduceDiv, Nat.reduceMod, ↓reduceIte, Nat.reduceEqDiff, Nat.reduceBEq, Nat.reduceSub, Nat.reduceLT, Nat.reduceAdd, Nat.reduceLeDiff, reduceCtorEq, Int.reduceEq, Int.reduceNe, Int.reduceLT, Int.reduceLE, Int.reduceToNat]
      exact ⟨q6, w6⟩
    | true =>
    cases h3 : sameW ⟨cn, cm, ct, cz⟩ ⟨cn2, cm2, ct2, cz2⟩ with
    | false =>
      simp only [c_rsame, r_rsame, unV_U, h1, hsa, hsc, h2, h3, Bool.false_and, Bool.and_false, go_sem, Nat.reduceDiv, Nat.reduceMod, ↓reduceIte, Nat.reduceEqDiff, Nat.reduceBEq, Nat.reduceSub, Nat.reduceLT, Nat.reduceAdd, Nat.reduceLeDiff, reduceCtorEq, Int.reduceEq, Int.reduceNe, Int.reduceLT, Int.reduceLE, Int.reduceToNat]
      exact ⟨q6, w6⟩
    | true =>
    cases h4 : decide (m = m2) with
    | false =>
      simp only [c_rsame, r_rsame, unV_U, h1, hsa, hsc, h2, h3, h4, Bool.false_and, Bool.and_false, go_sem, Nat.reduceDiv, Nat.reduceMod, ↓reduceIte, Nat.reduceEqDiff, Nat.reduceBEq, Nat.reduceSub, Nat.reduceLT, Nat.reduceAdd, Nat.reduceLeDiff, reduceCtorEq, Int.reduceEq, Int.reduceNe, Int.reduceLT, Int.reduceLE, Int.reduceToNat]
      exact ⟨q6, w6⟩
    | true =>
    by_cases h5 : ps.length = ps2.length
    rotate_left
    · have d5 : decide ((ps.length : Int) = (ps2.length : Int)) = false := decide_eq_false (by omega)
      have e : decide (ps = ps2) = false := decide_eq_false (by rintro rfl; exact h5 rfl)
      simp only [c_rsame, r_rsame, unV_U, h1, hsa, hsc, h2, h3, h4, d5, e, Bool.false_and, Bool.and_false, go_sem, Nat.reduceDiv, Nat.reduceMod, ↓reduceIte, Nat.reduceEqDiff, Nat.reduceBEq, Nat.reduceSub, Nat.reduceLT, Nat.reduceAdd, Nat.reduceLeDiff, reduceCtorEq, Int.reduceEq, Int.reduceNe, Int.reduceLT, Int.reduceLE, Int.reduceToNat]
      exact ⟨q6, w6⟩
    have d5 : decide ((ps.length : Int) = (ps2.length : Int)) = true := decide_eq_true (by omega)
    by_cases h6 : es.length = es2.length
    rotate_left
    · have d6 : decide ((es.length : Int) = (es2.length : Int)) = false := decide_eq_false (by omega)
      have e : decide (es = es2) = false := decide_eq_false (by rintro rfl; exact h6 rfl)
      simp only [c_rsame, r_rsame, unV_U, h1, hsa, hsc, h2, h3, h4, d5, d6, e, Bool.false_and, Bool.and_false, go_sem, Nat.reduceDiv, Nat.reduceMod, ↓reduceIte, Nat.reduceEqDiff, Nat.reduceBEq, Nat.reduceSub, Nat.reduceLT, Nat.reduceAdd, Nat.reduceLeDiff, reduceCtorEq, Int.reduceEq, Int.reduceNe, Int.reduceLT, Int.reduceLE, Int.reduceToNat]
      exact ⟨q6, w6⟩
    have d6 : decide ((es.length : Int) = (es2.length : Int)) = true := decide_eq_true (by omega)
    simp only [c_rsame, unV_U, h1, hsa, hsc, h2, h3, h4, d5, d6, Bool.true_and, go_sem, Nat.reduceDiv, Nat.reduceMod, ↓reduceIte, Nat.reduceEqDiff, Nat.reduceBEq, Nat.reduceSub, Nat.reduceLT, Nat.reduceAdd, Nat.reduceLeDiff, reduceCtorEq, Int.reduceEq, Int.reduceNe, Int.reduceLT, Int.reduceLE, Int.reduceToNat]
    refine ⟨⟨q6, w6⟩, ?_⟩
    refine loop2P [] [2, 3, 5] [0, 1] (fun i : Nat => ⟨[(2, .ref 0 0 0), (3, .ref 1 0 0), (5, .int .i64 (i : Int))],
      [.cells 28 [(20, .blob (t.map U)), (1, .sl kq (ps.map idAV)), (1, .str an), (1, .str am), (1, .int .i64 at'), (1, .str az), (1, .str cn), (1, .str cm), (1, .int .i64 ct), (1, .str cz), (1, .sl ke (es.map exV)), (1, .str m)],
       .cells 28 [(20, .blob (t2.map U)), (1, .sl kq2 (ps2.map idAV)), (1, .str an2), (1, .str am2), (1, .int .i64 at2), (1, .str az2), (1, .str cn2), (1, .str cm2), (1, .int .i64 ct2), (1, .str cz2), (1, .sl ke2 (es2.map exV)), (1, .str m2)]]⟩)
      (fun i => i ≤ ps.length ∧ ps.take i = ps2.take i) (fun i => ps.length - i) 0 rfl ⟨Nat.zero_le _, by simp⟩ ⟨rfl, by rfl⟩ (fun i hi R hR => ?_)
    obtain ⟨i1, i2⟩ := hi
    by_cases hil : i < ps.length
    · have c1 : decide ((i : Int) < (ps.length : Int)) = true := decide_eq_true (by omega)
      have hk : kq = 20 := q4.resolve_right (by intro h; have := congrArg List.length h; simp at this; rw [this] at hil; simp at hil)
      have hk2 : kq2 = 20 := w4.resolve_right (by intro h; have := congrArg List.length h; simp at this; rw [this] at h5; simp at h5; rw [h5] at hil; simp at hil)
      subst hk hk2
      have hget := getD_map idAV ps [] (.blob (List.replicate 20 (.int .u8 0))) hil
      have hga : ps.getD i [] = ps[i] := by simp [List.getD_eq_getElem?_getD, List.getElem?_eq_getElem hil]
      have hget2 := getD_map idAV ps2 [] (.blob (List.replicate 20 (.int .u8 0))) (show i < ps2.length by omega)
      have hga2 : ps2.getD i [] = ps2[i] := by simp [List.getD_eq_getElem?_getD, List.getElem?_eq_getElem (show i < ps2.length by omega)]
      have hl1 := q7 ps[i] (List.getElem_mem _)
      have hl2 := w7 ps2[i] (List.getElem_mem _)
      cases hx : decide (ps[i] = ps2[i]) with
      | false =>
        have e : decide (ps = ps2) = false := decide_eq_false (by rintro rfl; exact (of_decide_eq_false hx) rfl)
        rw [e, Bool.false_and]
        simp only [b_rsame_0, r_rsame, unV_U, c1, hget, hga, hget2, hga2, idAV, hx, hl1, hl2, Int.toNat_natCast, List.length_map, go_sem, Nat.reduceDiv, Nat.reduceMod, ↓reduceIte, Nat.reduceEqDiff, Nat.reduceBEq, Nat.reduceSub, Nat.reduceLT, Nat.reduceAdd, Nat.reduceLeDiff, reduceCtorEq, Int.reduceEq, Int.reduceNe, Int.reduceLT, Int.reduceLE, Int.reduceToNat]
        repeat' apply And.intro
        all_goals first | omega | rfl | trivial | skip
      | true =>
        simp only [b_rsame_0, r_rsame, unV_U, c1, hget, hga, hget2, hga2, idAV, hx, hl1, hl2, Int.toNat_natCast, List.length_map, go_sem, Nat.reduceDiv, Nat.reduceMod, ↓reduceIte, Nat.reduceEqDiff, Nat.reduceBEq, Nat.reduceSub, Nat.reduceLT, Nat.reduceAdd, Nat.reduceLeDiff, reduceCtorEq, Int.reduceEq, Int.reduceNe, Int.reduceLT, Int.reduceLE, Int.reduceToNat]
        refine ⟨⟨by omega, by omega⟩, ⟨by omega, by omega⟩, ⟨by omega, by omega⟩, hR _ (i + 1) ⟨by omega, take_eq_succ i2 hil (by omega) (of_decide_eq_true hx)⟩ (by omega) rfl⟩
    · have c1 : decide ((i : Int) < (ps.length : Int)) = false := decide_eq_false (by omega)
      have e1 : ps = ps2 := by
        rw [List.take_of_length_le (by omega), List.take_of_length_le (by omega)] at i2; exact i2
      have e : decide (ps = ps2) = true := decide_eq_true e1
      rw [e, Bool.true_and]
      simp only [b_rsame_0, t_rsame_1, c1, go_sem, Nat.reduceDiv, Nat.reduceMod, ↓reduceIte, Nat.reduceEqDiff, Nat.reduceBEq, Nat.reduceSub, Nat.reduceLT, Nat.reduceAdd, Nat.reduceLeDiff, reduceCtorEq, Int.reduceEq, Int.reduceNe, Int.reduceLT, Int.reduceLE, Int.reduceToNat]
      clear hR R
      refine loop2P [] [2, 3, 6] [0, 1] (fun i : Nat => ⟨[(2, .ref 0 0 0), (3, .ref 1 0 0), (6, .int .i64 (i : Int))],
        [.cells 28 [(20, .blob (t.map U)), (1, .sl kq (ps.map idAV)), (1, .str an), (1, .str am), (1, .int .i64 at'), (1, .str az), (1, .str cn), (1, .str cm), (1, .int .i64 ct), (1, .str cz), (1, .sl ke (es.map exV)), (1, .str m)],
         .cells 28 [(20, .blob (t2.map U)), (1, .sl kq2 (ps2.map idAV)), (1, .str an2), (1, .str am2), (1, .int .i64 at2), (1, .str az2), (1, .str cn2), (1, .str cm2), (1, .int .i64 ct2), (1, .str cz2), (1, .sl ke2 (es2.map exV)), (1, .str m2)]]⟩)
        (fun i => i ≤ es.length ∧ es.take i = es2.take i) (fun i => es.length - i) 0 rfl ⟨Nat.zero_le _, by simp⟩ ⟨rfl, by rfl⟩ (fun j hj R hR => ?_)
      obtain ⟨j1, j2⟩ := hj
      by_cases hjl : j < es.length
      · have c1 : decide ((j : Int) < (es.length : Int)) = true := decide_eq_true (by omega)
        have hk : ke = 2 := q5.resolve_right (by intro h; have := congrArg List.length h; simp at this; rw [this] at hjl; simp at hjl)
        have hk2 : ke2 = 2 := w5.resolve_right (by intro h; have := congrArg List.length h; simp at this; rw [this] at h6; simp at h6; rw [h6] at hjl; simp at hjl)
        subst hk hk2
        have hget := getD_map exV es ([], []) (.agg [(1, (.str [])), (1, (.str []))]) hjl
        have hga : es.getD j ([], []) = es[j] := by simp [List.getD_eq_getElem?_getD, List.getElem?_eq_getElem hjl]
        have hget2 := getD_map exV es2 ([], []) (.agg [(1, (.str [])), (1, (.str []))]) (show j < es2.length by omega)
        have hga2 : es2.getD j ([], []) = es2[j] := by simp [List.getD_eq_getElem?_getD, List.getElem?_eq_getElem (show j < es2.length by omega)]
        have hpe : (decide (es[j].1 = es2[j].1) && decide (es[j].2 = es2[j].2)) = decide (es[j] = es2[j]) := by
          rw [Bool.eq_iff_iff]; simp [Prod.ext_iff]
        cases hx : decide (es[j] = es2[j]) with
        | false =>
          have e : decide (es = es2) = false := decide_eq_false (by rintro rfl; exact (of_decide_eq_false hx) rfl)
          rw [e]
          simp only [b_rsame_1, r_rsame, c1, hget, hga, hget2, hga2, exV, hpe, hx, Int.toNat_natCast, go_sem, Nat.reduceDiv, Nat.reduceMod, ↓reduceIte, Nat.reduceEqDiff, Nat.reduceBEq, Nat.reduceSub, Nat.reduceLT, Nat.reduceAdd, Nat.reduceLeDiff, reduceCtorEq, Int.reduceEq, Int.reduceNe, Int.reduceLT, Int.reduceLE, Int.reduceToNat]
          repeat' apply And.intro
          all_goals first | omega | rfl | trivial | skip
        | true =>
          simp only [b_rsame_1, r_rsame, c1, hget, hga, hget2, hga2, exV, hpe, hx, Int.toNat_natCast, go_sem, Nat.reduceDiv, Nat.reduceMod, ↓reduceIte, Nat.reduceEqDiff, Nat.reduceBEq, Nat.reduceSub, Nat.reduceLT, Nat.reduceAdd, Nat.reduceLeDiff, reduceCtorEq, Int.reduceEq, Int.reduceNe, Int.reduceLT, Int.reduceLE, Int.reduceToNat]
          refine ⟨⟨by omega, by omega⟩, ⟨by omega, by omega⟩, ⟨by omega, by omega⟩, hR _ (j + 1) ⟨by omega, take_eq_succ j2 hjl (by omega) (of_decide_eq_true hx)⟩ (by omega) rfl⟩
      · have c1 : decide ((j : Int) < (es.length : Int)) = false := decide_eq_false (by omega)
        have e1 : es = es2 := by
          rw [List.take_of_length_le (by omega), List.take_of_length_le (by omega)] at j2; exact j2
        have e : decide (es = es2) = true := decide_eq_true e1
        rw [e]
        simp only [b_rsame_1, t_rsame_0, r_rsame, c1, go_sem, Nat.reduceDiv, Nat.reduceMod, ↓reduceIte, Nat.reduceEqDiff, Nat.reduceBEq, Nat.reduceSub, Nat.reduceLT, Nat.reduceAdd, Nat.reduceLeDiff, reduceCtorEq, Int.reduceEq, Int.reduceNe, Int.reduceLT, Int.reduceLE, Int.reduceToNat]
  · cases hs
end Go.Proofs.YtlkaaoekbmegkaaGreatDoor
namespace Go.Proofs.YtlkaaoekbmegkaaGreatDoor
set_option linter.all false
open Go.RowKit
open Go.Lib (decDigits itoa atoiAll)
end Go.Proofs.YtlkaaoekbmegkaaGreatDoor
namespace Go.Proofs.YtlkaaoekbmegkaaGreatDoor
set_option linter.all false
open Go.RowKit
open Go.Lib (index hasPrefix cut indexAny itoa)
end Go.Proofs.YtlkaaoekbmegkaaGreatDoor
namespace Go.Proofs.YtlkaaoekbmegkaaGreatDoor
set_option linter.all false
open Go.RowKit
open Go.Lib (index hasPrefix cut indexAny itoa decDigits)
theorem dec_dig (n : Nat) : ∀ x ∈ decDigits n, 48 ≤ x.toNat ∧ x.toNat ≤ 57 := by
  induction n using Nat.strongRecOn with
  | _ n ih =>
    intro x hx
    by_cases h : n < 10
    · rw [decD_small h, List.mem_singleton] at hx
      subst hx; rw [dc_toNat h]; omega
    · rw [decD_big (by omega), List.mem_append, List.mem_singleton] at hx
      rcases hx with hx | rfl
      · exact ih (n / 10) (by omega) x hx
      · rw [dc_toNat (by omega)]; omega
theorem dec_no (n : Nat) (c : UInt8) (h : c.toNat < 48) : c ∉ decDigits n := fun hm => by have := (dec_dig n c hm).1; omega
theorem itoa_dec {t : Int} (h : 0 ≤ t) : itoa t = decDigits t.toNat := by
  obtain ⟨n, rfl⟩ := Int.eq_ofNat_of_zero_le h
  rw [itoa_nat]; rfl
theorem hasL_no {p s : List UInt8} (h : hasL p s = false) {c : UInt8} (hc : c ∈ p) : c ∉ s := fun hm => by
  have : hasL p s = true := (hasL_iff p s).2 ⟨c, hm, hc⟩
  rw [h] at this; cases this
theorem rightW_parts {w : WhoL} (h : rightW w = true) : hasL [60, 62, 10] w.name = false ∧ hasL [60, 62, 10] w.mail = false ∧ zonB w.zone = true := by
  unfold rightW at h
  rw [hasL_app] at h
  cases h1 : hasL [60, 62, 10] w.name <;> cases h2 : hasL [60, 62, 10] w.mail <;> simp [h1, h2] at h
  exact ⟨rfl, rfl, h.2⟩
theorem decB_itoa {t : Int} (h0 : 0 ≤ t) (h1 : t < 4611686018427387904) : decB (itoa t) = true ∧ (decN (itoa t) : Int) = t := by
  rw [itoa_dec h0]
  obtain ⟨a, b⟩ := decBN_some (decV_dec t.toNat (by omega))
  exact ⟨a, by rw [b]; omega⟩
theorem textW_shape (w : WhoL) : textW w = w.name ++ 32 :: 60 :: (w.mail ++ 62 :: 32 :: (itoa w.time ++ 32 :: w.zone)) := by simp [textW]
theorem person_cuts {w : WhoL} (h : rightW w = true) : cut (textW w) [32, 60] = (w.name, w.mail ++ 62 :: 32 :: (itoa w.time ++ 32 :: w.zone), true) ∧
    cut (w.mail ++ 62 :: 32 :: (itoa w.time ++ 32 :: w.zone)) [62, 32] = (w.mail, itoa w.time ++ 32 :: w.zone, true) ∧ cut (itoa w.time ++ 32 :: w.zone) [32] = (itoa w.time, w.zone, true) := by
  obtain ⟨h1, h2, h3⟩ := rightW_parts h
  obtain ⟨h4, h5⟩ := rightW_time h
  refine ⟨?_, ?_, ?_⟩
  · rw [textW_shape]; exact cut_2y (hasL_no h1 (by decide)) (by decide)
  · exact cut_2x (hasL_no h2 (by decide))
  · refine cut_1 ?_
    rw [itoa_dec h4]; exact dec_no _ _ (by decide)
theorem person_text {w : WhoL} (h : rightW w = true) : personB (textW w) = true ∧ personW (textW w) = w := by
  obtain ⟨h4, h5⟩ := rightW_time h
  obtain ⟨e1, e2, e3⟩ := person_cuts h
  obtain ⟨e4, e5⟩ := decB_itoa h4 h5
  have hw : personW (textW w) = w := by
    unfold personW
    rw [e1]; simp only; rw [e2]; simp only; rw [e3]; simp only
    rw [show timeN (itoa w.time) = (decN (itoa w.time) : Int) from if_pos e4, e5]
  refine ⟨?_, hw⟩
  unfold personB
  rw [hw, h, e1]; simp only; rw [e2]; simp only; rw [e3]; simp only; rw [e4]; rfl
end Go.Proofs.YtlkaaoekbmegkaaGreatDoor
