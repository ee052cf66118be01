import Derived.Test.YtlkaaoekbmegkaaDoorQTxtLaw
import Derived.Test.YtlkaaoekbmegkaaDoorQFBld
import Derived.Test.YtlkaaoekbmegkaaDoorQShelf
import Derived.Test.YtlkaaoekbmegkaaDoorChecked
import Derived.Test.YtlkaaoekbmegkaaDoorQAMS
import Derived.Lib.IndexLaws
namespace Go.Proofs.YtlkaaoekbmegkaaDoor
set_option linter.all false
open Go.RowKit
def goodQ (l : List UInt8) : Bool := decide (l.length = 40 ∧ ∀ c ∈ l, 0 ≤ dv c)
def pOut (l : List UInt8) : List UInt8 := if goodQ l = true then outL l 40 else List.replicate 20 0
def pErr (l : List UInt8) : Int := if goodQ l = true then 0 else 4
def parseS : Spec := fun xs hp => match xs, hp with
  | [.str l], [] => some ⟨.tup [.blob ((pOut l).map U), .int .i64 (pErr l)], [], l.length ≤ 1000000000⟩
  | _, _ => none
theorem parse_ok : FnOk Tryd.prog 37 parseS := by
  refine fnok_of_calls fun xs0 hp r hs hp' => ?_
  unfold parseS at hs
  split at hs
  · rename_i l
    injection hs with hs; subst hs
    refine ⟨rfl, rfl, fun w S ρ args hS ha => ?_⟩
    obtain ⟨v, vs, rfl, hv, hr⟩ := ha.get _ _ rfl
    obtain rfl := hr.none
    rw [hv.str]
    refine (shaParse l w hp').mono ?_
    rintro e w' ⟨rfl, hb⟩
    refine ⟨_, rfl, hb, fun w' S ρ => ?_⟩
    have hz : (List.replicate 20 (0 : UInt8)).map U = List.replicate 20 (.int .u8 0) := rfl
    unfold pOut pErr
    by_cases hg : l.length = 40 ∧ ∀ c ∈ l, 0 ≤ dv c
    · have hg' : goodQ l = true := decide_eq_true hg
      rw [if_pos hg, if_pos hg', if_pos hg', outC_U]
      exact ⟨[_, _], rfl, rfl, fun i hi => by
        match i, hi with
        | 0, _ => exact blob_U _ _ _ _
        | 1, _ => exact Vl.int' _ _⟩
    · have hg' : ¬ goodQ l = true := by unfold goodQ; simpa using hg
      rw [if_neg hg, if_neg hg', if_neg hg', hz]
      exact ⟨[_, _], rfl, rfl, fun i hi => by
        match i, hi with
        | 0, _ => exact Vl.blob' (List.replicate 20 (.int .u8 0)) (by simp [Value.oneCell'])
        | 1, _ => exact Vl.int' _ _⟩
  · cases hs
end Go.Proofs.YtlkaaoekbmegkaaDoor
namespace Go.Proofs.YtlkaaoekbmegkaaDoor
set_option linter.all false
open Go.RowKit
open Go.Lib (index hasPrefix trimPrefix cut indexAny)
def hasPreS : Spec := fun xs hp => match xs, hp with
  | [.str s, .str p], [] => some ⟨.bool (hasPrefix s p), [], True⟩
  | _, _ => none
theorem hasPre_ok : FnOk Tryd.prog 22 hasPreS := by
  refine fnok_of_calls fun xs0 hp r hs hp' => ?_
  unfold hasPreS at hs
  split at hs
  · rename_i s p
    injection hs with hs; subst hs
    refine ⟨rfl, rfl, fun w S ρ args hS ha => ?_⟩
    obtain ⟨v, vs, rfl, hv, hr⟩ := ha.get _ _ rfl
    obtain ⟨u, us, rfl, hu, hr⟩ := hr.get _ _ rfl
    obtain rfl := hr.none
    rw [hv.str, hu.str]
    refine (Tryd.strings_HasPrefix ⟨s.toArray⟩ ⟨p.toArray⟩ w).mono ?_
    rintro e w' ⟨rfl, rfl⟩
    exact ⟨_, rfl, Below.refl _ _, fun _ _ _ => Vl.bool' _⟩
  · cases hs
end Go.Proofs.YtlkaaoekbmegkaaDoor
namespace Go.Proofs.YtlkaaoekbmegkaaDoor
set_option linter.all false
open Go.RowKit
def c_oword : ACode := (.seq (.reg none [⟨(some 2), (.mv (.c (.str []))), none⟩]) (.seq (.reg none [⟨(some 4), (.buildA [(.string ⟨#[]⟩), (.string ⟨#[]⟩), (.string ⟨#[]⟩), (.string ⟨#[]⟩), (.string ⟨#[]⟩)] [(0, (.c (.str []))), (1, (.c (.str [99, 111, 109, 109, 105, 116]))), (2, (.c (.str [116, 114, 101, 101]))), (3, (.c (.str [98, 108, 111, 98]))), (4, (.c (.str [116, 97, 103])))]), none⟩, ⟨(some 3), (.new 111 [(5, (.blob [(.string ⟨#[]⟩), (.string ⟨#[]⟩), (.string ⟨#[]⟩), (.string ⟨#[]⟩), (.string ⟨#[]⟩)]))]), none⟩, ⟨none, (.st (.arr 5) (.t 3) (.t 4)), none⟩]) (.seq (.seq (.reg none [⟨(some 5), (.mv (.t 0)), none⟩, ⟨(some 6), (.bin .lss (.t 5) (.c (.int .i64 1))), none⟩, ⟨(some 7), (.mv (.t 6)), none⟩, ⟨(some 8), (.mv (.t 0)), (some (7, false))⟩, ⟨(some 9), (.bin .gtr (.t 8) (.c (.int .i64 4))), (some (7, false))⟩, ⟨(some 10), (.pick (.t 7) (.c (.bool true)) (.t 9)), none⟩]) (.cond (.t 10) (.seq (.reg none [⟨(some 2), (.mv (.c (.str []))), none⟩]) .ret) .skip)) (.seq (.reg none [⟨(some 11), (.mv (.t 0)), none⟩, ⟨(some 12), (.iaA 5 (.t 3) (.t 11)), none⟩, ⟨(some 13), (.ld (.one (.str [])) (.t 12)), none⟩, ⟨(some 2), (.mv (.t 13)), none⟩]) .ret))))
def r_oword : List ARes := [(.t 2)]
theorem s_oword : slimF Tryd.prog Tryd.f42 = some (c_oword, r_oword) := by kernel_rfl
def wordL : Int → List UInt8
  | 1 => [99, 111, 109, 109, 105, 116]
  | 2 => [116, 114, 101, 101]
  | 3 => [98, 108, 111, 98]
  | 4 => [116, 97, 103]
  | _ => []
theorem wordL_out {k : Int} (h : k < 1 ∨ 4 < k) : wordL k = [] := by
  unfold wordL
  split <;> first | rfl | omega
def wordS : Spec := fun xs hp => match xs, hp with
  | [.int .i64 k], [] => some ⟨.str (wordL k), [], True⟩
  | _, _ => none
theorem oword_ok : FnOk Tryd.prog 42 wordS := by
  refine fn_slim2 Tryd.func42 s_oword (Φ := phiL []) phi_nil ?_
  intro xs hp r hs hp'
  unfold wordS at hs
  split at hs
  · injection hs with hs; subst hs
    rename_i k
    refine ⟨len_le (by kernel_rfl), ?_⟩
    have hcase : k < 1 ∨ 4 < k ∨ k = 1 ∨ k = 2 ∨ k = 3 ∨ k = 4 := by omega
    rcases hcase with h | h | rfl | rfl | rfl | rfl
    · rw [wordL_out (.inl h)]
      simp only [decide_eq_true h, c_oword, r_oword, wordL, Int.reduceLT, Int.reduceLE, Int.reduceToNat, List.getD_cons_zero, List.getD_cons_succ, ofC, decide_true, decide_false, go_sem, Nat.reduceDiv, Nat.reduceMod, ↓reduceIte, Nat.reduceEqDiff, Nat.reduceBEq, Nat.reduceSub, Nat.reduceLT, Nat.reduceAdd, Nat.reduceLeDiff, reduceCtorEq, Int.reduceEq, Int.reduceNe, Int.reduceLT, Int.reduceLE, Int.reduceToNat]
    · rw [wordL_out (.inr h)]
      have h1 : decide (k < 1) = false := decide_eq_false (by omega)
      simp only [decide_eq_true h, h1, c_oword, r_oword, wordL, Int.reduceLT, Int.reduceLE, Int.reduceToNat, List.getD_cons_zero, List.getD_cons_succ, ofC, decide_true, decide_false, go_sem, Nat.reduceDiv, Nat.reduceMod, ↓reduceIte, Nat.reduceEqDiff, Nat.reduceBEq, Nat.reduceSub, Nat.reduceLT, Nat.reduceAdd, Nat.reduceLeDiff, reduceCtorEq, Int.reduceEq, Int.reduceNe, Int.reduceLT, Int.reduceLE, Int.reduceToNat]
    · simp only [c_oword, r_oword, wordL, Int.reduceLT, Int.reduceLE, Int.reduceToNat, List.getD_cons_zero, List.getD_cons_succ, ofC, decide_true, decide_false, go_sem, Nat.reduceDiv, Nat.reduceMod, ↓reduceIte, Nat.reduceEqDiff, Nat.reduceBEq, Nat.reduceSub, Nat.reduceLT, Nat.reduceAdd, Nat.reduceLeDiff, reduceCtorEq, Int.reduceEq, Int.reduceNe, Int.reduceLT, Int.reduceLE, Int.reduceToNat]
      done
    · simp only [c_oword, r_oword, wordL, Int.reduceLT, Int.reduceLE, Int.reduceToNat, List.getD_cons_zero, List.getD_cons_succ, ofC, decide_true, decide_false, go_sem, Nat.reduceDiv, Nat.reduceMod, ↓reduceIte, Nat.reduceEqDiff, Nat.reduceBEq, Nat.reduceSub, Nat.reduceLT, Nat.reduceAdd, Nat.reduceLeDiff, reduceCtorEq, Int.reduceEq, Int.reduceNe, Int.reduceLT, Int.reduceLE, Int.reduceToNat]
    · simp only [c_oword, r_oword, wordL, Int.reduceLT, Int.reduceLE, Int.reduceToNat, List.getD_cons_zero, List.getD_cons_succ, ofC, decide_true, decide_false, go_sem, Nat.reduceDiv, Nat.reduceMod, ↓reduceIte, Nat.reduceEqDiff, Nat.reduceBEq, Nat.reduceSub, Nat.reduceLT, Nat.reduceAdd, Nat.reduceLeDiff, reduceCtorEq, Int.reduceEq, Int.reduceNe, Int.reduceLT, Int.reduceLE, Int.reduceToNat]
    · simp only [c_oword, r_oword, wordL, Int.reduceLT, Int.reduceLE, Int.reduceToNat, List.getD_cons_zero, List.getD_cons_succ, ofC, decide_true, decide_false, go_sem, Nat.reduceDiv, Nat.reduceMod, ↓reduceIte, Nat.reduceEqDiff, Nat.reduceBEq, Nat.reduceSub, Nat.reduceLT, Nat.reduceAdd, Nat.reduceLeDiff, reduceCtorEq, Int.reduceEq, Int.reduceNe, Int.reduceLT, Int.reduceLE, Int.reduceToNat]
  · cases hs
end Go.Proofs.YtlkaaoekbmegkaaDoor
namespace Go.Proofs.YtlkaaoekbmegkaaDoor
set_option linter.all false
open Go.RowKit
def b_okind_0 : ACode := (.seq (.seq (.reg none [⟨(some 4), (.mv (.t 3)), none⟩, ⟨(some 5), (.bin .leq (.t 4) (.c (.int .i64 4))), none⟩]) (.cond (.t 5) .skip (.exit 0))) (.seq (.block 1 (.seq (.reg none [⟨(some 8), (.mv (.t 3)), none⟩, ⟨(some 9), (.call 42 [(.t 8)]), none⟩, ⟨(some 10), (.mv (.t 0)), none⟩, ⟨(some 11), (.bin .eql (.t 9) (.t 10)), none⟩]) (.cond (.t 11) (.seq (.reg none [⟨(some 12), (.mv (.t 3)), none⟩, ⟨(some 2), (.mv (.t 12)), none⟩]) .ret) .skip))) (.reg none [⟨(some 6), (.mv (.t 3)), none⟩, ⟨(some 7), (.bin .add (.t 6) (.c (.int .i64 1))), none⟩, ⟨(some 3), (.mv (.t 7)), none⟩])))
def t_okind_0 : ACode := (.seq (.reg none [⟨(some 2), (.mv (.c (.int .i64 0))), none⟩]) .ret)
def c_okind : ACode := (.seq (.reg none [⟨(some 2), (.mv (.c (.int .i64 0))), none⟩]) (.seq (.seq (.reg none [⟨(some 3), (.mv (.c (.int .i64 1))), none⟩]) (.block 0 (.loop b_okind_0))) t_okind_0))
def r_okind : List ARes := [(.t 2)]
theorem s_okind : slimF Tryd.prog Tryd.f28 = some (c_okind, r_okind) := by kernel_rfl
def kindN (s : List UInt8) : Int := if wordL 1 = s then 1 else if wordL 2 = s then 2 else if wordL 3 = s then 3 else if wordL 4 = s then 4 else 0
theorem kindN_at {s : List UInt8} {k : Nat} (h1 : 1 ≤ k) (h2 : k ≤ 4) (h : wordL k = s) : kindN s = k := by
  subst h
  match k, h1, h2 with
  | 1, _, _ => rfl
  | 2, _, _ => rfl
  | 3, _, _ => rfl
  | 4, _, _ => rfl
theorem kindN_no {s : List UInt8} (h : ∀ j : Nat, 1 ≤ j → j < 5 → wordL j ≠ s) : kindN s = 0 := by
  unfold kindN
  have e1 : wordL 1 ≠ s := h 1 (by omega) (by omega)
  have e2 : wordL 2 ≠ s := h 2 (by omega) (by omega)
  have e3 : wordL 3 ≠ s := h 3 (by omega) (by omega)
  have e4 : wordL 4 ≠ s := h 4 (by omega) (by omega)
  rw [if_neg e1, if_neg e2, if_neg e3, if_neg e4]
def kindS : Spec := fun xs hp => match xs, hp with
  | [.str s], [] => some ⟨.int .i64 (kindN s), [], True⟩
  | _, _ => none
theorem okind_ok : FnOk Tryd.prog 28 kindS := by
  refine fn_slim2 Tryd.func28 s_okind (Φ := phiL [(42, [], wordS)]) (phi_cons oword_ok (by kernel_rfl) phi_nil) ?_
  intro xs hp r hs hp'
  unfold kindS at hs
  split at hs
  · injection hs with hs; subst hs
    rename_i s
    refine ⟨len_le (by kernel_rfl), ?_⟩
    simp only [c_okind, go_sem, Nat.reduceDiv, Nat.reduceMod, ↓reduceIte, Nat.reduceEqDiff, Nat.reduceBEq, Nat.reduceSub, Nat.reduceLT, Nat.reduceAdd, Nat.reduceLeDiff, reduceCtorEq, Int.reduceEq, Int.reduceNe, Int.reduceLT, Int.reduceLE, Int.reduceToNat]
    refine loop2P [] [0, 3] [] (fun k : Nat => ⟨[(0, .str s), (3, .int .i64 (k : Int))], []⟩) (fun k => 1 ≤ k ∧ k ≤ 5 ∧ ∀ j : Nat, 1 ≤ j → j < k → wordL j ≠ s) (fun k => 5 - k) 1 rfl ⟨by omega, by omega, by omega⟩ ⟨rfl, rfl⟩ (fun k hk R hR => ?_)
    obtain ⟨k1, k2, k3⟩ := hk
    simp only [b_okind_0, t_okind_0, r_okind, wordS, go_sem, Nat.reduceDiv, Nat.reduceMod, ↓reduceIte, Nat.reduceEqDiff, Nat.reduceBEq, Nat.reduceSub, Nat.reduceLT, Nat.reduceAdd, Nat.reduceLeDiff, reduceCtorEq, Int.reduceEq, Int.reduceNe, Int.reduceLT, Int.reduceLE, Int.reduceToNat]
    refine ⟨fun h => ⟨fun e => ?_, fun e => ?_⟩, fun h => ?_⟩
    · have h := of_decide_eq_true h
      have e := of_decide_eq_true e
      rw [kindN_at k1 (by omega) e]
    · have h := of_decide_eq_true h
      have e := of_decide_eq_false e
      refine ⟨by (first | omega | (simp only [lenOk, bytesOk, inI, IntKind.bits, List.length_append, Bs_len, List.length_cons, List.length_nil, List.length_map, List.length_take, List.length_drop, List.length_replicate]; omega)), hR _ (k + 1) ⟨by omega, by omega, fun j j1 j2 => ?_⟩ (by omega) rfl⟩
      rcases Nat.lt_or_ge j k with hj | hj
      · exact k3 j j1 hj
      · rw [show j = k by omega]; exact e
    · have h := of_decide_eq_false h
      rw [kindN_no fun j j1 j2 => k3 j j1 (by omega)]
  · cases hs
end Go.Proofs.YtlkaaoekbmegkaaDoor
namespace Go.Proofs.YtlkaaoekbmegkaaDoor
set_option linter.all false
open Go.RowKit
open Go.Lib (index hasPrefix cut indexAny itoa)
theorem cutl1 (s p : List UInt8) : (cut s p).1.length ≤ s.length := by
  unfold cut; split
  · simp only [List.length_take]; omega
  · simp
theorem cutl2 (s p : List UInt8) : (cut s p).2.1.length ≤ s.length := by
  unfold cut; split
  · simp only [List.length_drop]; omega
  · simp
noncomputable def timeN (s : List UInt8) : Int := if decB s = true then (decN s : Int) else 0
noncomputable def fdecT : Spec := fun xs hp => match xs, hp with
  | [.str s], [] => some ⟨.tup [.int .i64 (timeN s), .int .i64 (if decB s = true then 0 else 4)], [], s.length ≤ 281474976710656⟩
  | _, _ => none
theorem fdecT_ok : FnOk Tryd.prog 41 fdecT := by
  refine fdec_ok.imp fun xs hp r hs hp' => ?_
  unfold fdecT at hs
  split at hs
  · rename_i s
    injection hs with hs; subst hs
    by_cases h : decB s = true
    · refine ⟨⟨.tup [.int .i64 (decN s : Int), .int .i64 0], [], s.length ≤ 281474976710656⟩, ?_, hp', ?_, rfl⟩
      · show (if decB s = true then _ else _) = _
        rw [if_pos h]
      · show AV.tup [.int .i64 (decN s : Int), .int .i64 0] = AV.tup [.int .i64 (timeN s), .int .i64 (if decB s = true then 0 else 4)]
        rw [if_pos h, show timeN s = (decN s : Int) from if_pos h]
    · refine ⟨⟨.tup [.int .i64 0, .int .i64 4], [], s.length ≤ 281474976710656⟩, ?_, hp', ?_, rfl⟩
      · show (if decB s = true then _ else _) = _
        rw [if_neg h]
      · show AV.tup [.int .i64 0, .int .i64 4] = AV.tup [.int .i64 (timeN s), .int .i64 (if decB s = true then 0 else 4)]
        rw [if_neg h, show timeN s = 0 from if_neg h]
  · cases hs
noncomputable def personW (s : List UInt8) : WhoL :=
  ⟨(cut s [32, 60]).1, (cut (cut s [32, 60]).2.1 [62, 32]).1, timeN (cut (cut (cut s [32, 60]).2.1 [62, 32]).2.1 [32]).1, (cut (cut (cut s [32, 60]).2.1 [62, 32]).2.1 [32]).2.1⟩
noncomputable def personB (s : List UInt8) : Bool :=
  (cut s [32, 60]).2.2 && (cut (cut s [32, 60]).2.1 [62, 32]).2.2 && (cut (cut (cut s [32, 60]).2.1 [62, 32]).2.1 [32]).2.2 && decB (cut (cut (cut s [32, 60]).2.1 [62, 32]).2.1 [32]).1 && rightW (personW s)
def who0 : WhoL := ⟨[], [], 0, []⟩
noncomputable def personV (s : List UInt8) : WhoL := if personB s = true then personW s else who0
noncomputable def personR (s : List UInt8) (pr : Prop) : Option Ret := some ⟨.tup [.agg (whoP (personV s)), .int .i64 (if personB s = true then 0 else 4)], [], pr⟩
noncomputable def personS : Spec := fun xs hp => match xs, hp with
  | [.str s], [] => personR s (s.length ≤ 1000000000)
  | _, _ => none
set_option maxHeartbeats 2000000 in
theorem person_ok : FnOk Tryd.prog 27 personS := by
  refine fn_slim2 Tryd.func27 s_cperson (Φ := phiL [(39, [], cutS), (41, [], fdecT), (29, [], crightS)]) (phi_cons cut_ok (by kernel_rfl) (phi_cons fdecT_ok (by kernel_rfl) (phi_cons cright_ok (by kernel_rfl) phi_nil))) ?_
  intro xs hp r hs hp'
  unfold personS personR at hs
  split at hs
  · injection hs with hs; subst hs
    rename_i s
    have p1 : s.length ≤ 1000000000 := hp'
    refine ⟨len_le (by kernel_rfl), ?_⟩
    have hA1 := cutl1 s [32, 60]
    have hA2 := cutl2 s [32, 60]
    have hB1 := cutl1 (cut s [32, 60]).2.1 [62, 32]
    have hB2 := cutl2 (cut s [32, 60]).2.1 [62, 32]
    have hC1 := cutl1 (cut (cut s [32, 60]).2.1 [62, 32]).2.1 [32]
    have hC2 := cutl2 (cut (cut s [32, 60]).2.1 [62, 32]).2.1 [32]
    unfold personV whoP who0 personB personW
    simp only [c_cperson, cutS, fdecT, go_sem, Nat.reduceDiv, Nat.reduceMod, ↓reduceIte, Nat.reduceEqDiff, Nat.reduceBEq, Nat.reduceSub, Nat.reduceLT, Nat.reduceAdd, Nat.reduceLeDiff, reduceCtorEq, Int.reduceEq, Int.reduceNe, Int.reduceLT, Int.reduceLE, Int.reduceToNat]
    generalize cut s [32, 60] = A at *
    generalize cut A.2.1 [62, 32] = B at *
    generalize cut B.2.1 [32] = C at *
    refine ⟨by omega, by omega, by omega, by omega, ?_⟩
    cases h1 : A.2.2 <;> cases h2 : B.2.2 <;> cases h3 : C.2.2 <;> cases h4 : decB C.1
    all_goals (try simp only [k_cperson_6, r_cperson, crightS, Bool.false_and, Bool.and_false, Bool.true_and, if_true, if_false, Bool.false_eq_true, go_sem, Nat.reduceDiv, Nat.reduceMod, ↓reduceIte, Nat.reduceEqDiff, Nat.reduceBEq, Nat.reduceSub, Nat.reduceLT, Nat.reduceAdd, Nat.reduceLeDiff, reduceCtorEq, Int.reduceEq, Int.reduceNe, Int.reduceLT, Int.reduceLE, Int.reduceToNat])
    cases h5 : rightW ⟨A.1, B.1, timeN C.1, C.2.1⟩
    all_goals simp only [k_cperson_6, r_cperson, crightS, h5, Bool.false_and, Bool.and_false, Bool.true_and, if_true, if_false, Bool.false_eq_true, go_sem, Nat.reduceDiv, Nat.reduceMod, ↓reduceIte, Nat.reduceEqDiff, Nat.reduceBEq, Nat.reduceSub, Nat.reduceLT, Nat.reduceAdd, Nat.reduceLeDiff, reduceCtorEq, Int.reduceEq, Int.reduceNe, Int.reduceLT, Int.reduceLE, Int.reduceToNat]
    all_goals omega
  · cases hs
structure TagL where
  object : List UInt8
  kind : Int
  name : List UInt8
  tagger : WhoL
  message : List UInt8
def rightT (t : TagL) : Bool := rightW t.tagger && !decide (wordL t.kind = []) && !decide (t.name = []) && !t.name.contains 10
def tagL (o : List UInt8) (k : Int) (n w m : List UInt8) : List UInt8 :=
  [111, 98, 106, 101, 99, 116, 32] ++ hexL o ++ [10, 116, 121, 112, 101, 32] ++ wordL k ++ [10, 116, 97, 103, 32] ++ n ++ [10, 116, 97, 103, 103, 101, 114, 32] ++ w ++ [10, 10] ++ m
def bodyT (t : TagL) : List UInt8 := tagL t.object t.kind t.name (textW t.tagger) t.message
def lineG (s w : List UInt8) : Option (List UInt8 × List UInt8) := if (cut s [10]).2.2 = true ∧ hasPrefix (cut s [10]).1 w = true then some ((cut s [10]).1.drop w.length, (cut s [10]).2.1) else none
def lineR (T : TypeId) (s : List UInt8) (b : Bool) (pr : Prop) : Option (List UInt8 × List UInt8) → Option Ret
  | some (x, r) => some ⟨.tup [.str x, .int .i64 0], [.cells T [(1, .str r), (1, .bool b)]], pr⟩
  | none => some ⟨.tup [.str [], .int .i64 (-1)], [.cells T [(1, .str s), (1, .bool b)]], pr⟩
def lineS : Spec := fun xs hp => match xs, hp with
  | [.ref 0 0 0, .sl 1 [.str w]], [.cells T [(1, .str s), (1, .bool b)]] => lineR T s b (s.length ≤ 1000000000) (lineG s w)
  | _, _ => none
theorem lineG_len {s w x r : List UInt8} (h : lineG s w = some (x, r)) : x.length ≤ s.length ∧ r.length < s.length := by
  unfold lineG at h
  split at h
  · rename_i hc
    injection h with h; injection h with h1 h2; subst h1 h2
    have := congrArg List.length (cut_t hc.1)
    simp only [List.length_append, List.length_cons, List.length_nil] at this
    rw [List.length_drop]; omega
  · cases h
set_option maxHeartbeats 1000000 in
theorem line_ok : FnOk Tryd.prog 40 lineS := by
  refine fn_slim2 Tryd.func40 s_cline (Φ := phiL [(39, [], cutS), (22, [], hasPreS)]) (phi_cons cut_ok (by kernel_rfl) (phi_cons hasPre_ok (by kernel_rfl) phi_nil)) ?_
  intro xs hp r hs hp'
  unfold lineS at hs
  split at hs
  · rename_i w T s b
    have hpre : s.length ≤ 1000000000 := by
      unfold lineR at hs
      split at hs <;> (injection hs with hs; subst hs; exact hp')
    refine ⟨len_le (by kernel_rfl), ?_⟩
    have hA1 := cutl1 s [10]
    simp only [c_cline, cutS, go_sem, Nat.reduceDiv, Nat.reduceMod, ↓reduceIte, Nat.reduceEqDiff, Nat.reduceBEq, Nat.reduceSub, Nat.reduceLT, Nat.reduceAdd, Nat.reduceLeDiff, reduceCtorEq, Int.reduceEq, Int.reduceNe, Int.reduceLT, Int.reduceLE, Int.reduceToNat]
    refine ⟨by omega, ?_⟩
    unfold lineG at hs
    generalize cut s [10] = A at *
    refine loop2P [] [0, 6, 7, 8, 20, 21, 22] [0] (fun i : Nat => ⟨[(0, .ref 0 0 0), (6, .str A.1), (7, .str A.2.1), (8, .bool A.2.2), (20, .sl 1 [.str w]), (21, .int .i64 1), (22, .int .i64 (i : Int))], [.cells T [(1, .str s), (1, .bool b)]]⟩) (fun i => i = 0 ∨ (i = 1 ∧ ¬ (A.2.2 = true ∧ hasPrefix A.1 w = true))) (fun i => 1 - i) 0 rfl (.inl rfl) ⟨rfl, rfl⟩ (fun i hi R hR => ?_)
    rcases hi with rfl | ⟨rfl, hi⟩
    · have go : ¬ (A.2.2 = true ∧ hasPrefix A.1 w = true) → ∀ s', kp [0, 6, 7, 8, 20, 21, 22] [0].length (toS s') = some ⟨[(0, .ref 0 0 0), (6, .str A.1), (7, .str A.2.1), (8, .bool A.2.2), (20, .sl 1 [.str w]), (21, .int .i64 1), (22, .int .i64 ((1 : Nat) : Int))], [.cells T [(1, .str s), (1, .bool b)]]⟩ → R s' := fun hn s' h => hR s' 1 (.inr ⟨rfl, hn⟩) (by decide) h
      have c1 : decide (((0 : Nat) : Int) < 1) = true := by decide
      cases h1 : A.2.2 with
      | false =>
        rw [h1] at go
        simp only [b_cline_0, t_cline_0, r_cline, hasPreS, h1, c1, Int.toNat_natCast, go_sem, Nat.reduceDiv, Nat.reduceMod, ↓reduceIte, Nat.reduceEqDiff, Nat.reduceBEq, Nat.reduceSub, Nat.reduceLT, Nat.reduceAdd, Nat.reduceLeDiff, reduceCtorEq, Int.reduceEq, Int.reduceNe, Int.reduceLT, Int.reduceLE, Int.reduceToNat]
        exact ⟨⟨by omega, by omega⟩, go (by simp) _ rfl⟩
      | true =>
        cases h2 : hasPrefix A.1 w with
        | false =>
          rw [h1, h2] at go
          simp only [b_cline_0, t_cline_0, r_cline, hasPreS, h1, h2, c1, Int.toNat_natCast, go_sem, Nat.reduceDiv, Nat.reduceMod, ↓reduceIte, Nat.reduceEqDiff, Nat.reduceBEq, Nat.reduceSub, Nat.reduceLT, Nat.reduceAdd, Nat.reduceLeDiff, reduceCtorEq, Int.reduceEq, Int.reduceNe, Int.reduceLT, Int.reduceLE, Int.reduceToNat]
          exact ⟨⟨by omega, by omega⟩, go (by simp) _ rfl⟩
        | true =>
          rw [if_pos ⟨h1, h2⟩] at hs
          injection hs with hs; subst hs
          simp only [b_cline_0, t_cline_0, r_cline, hasPreS, h1, h2, c1, Int.toNat_natCast, go_sem, Nat.reduceDiv, Nat.reduceMod, ↓reduceIte, Nat.reduceEqDiff, Nat.reduceBEq, Nat.reduceSub, Nat.reduceLT, Nat.reduceAdd, Nat.reduceLeDiff, reduceCtorEq, Int.reduceEq, Int.reduceNe, Int.reduceLT, Int.reduceLE, Int.reduceToNat]
          have hwl : w.length ≤ A.1.length := by
            have h3 : w.isPrefixOf A.1 = true := h2
            rw [List.isPrefixOf_iff_prefix] at h3
            exact h3.length_le
          exact ⟨⟨by omega, by omega, by omega⟩, by rw [List.take_length]⟩
    · have c1 : decide (((1 : Nat) : Int) < 1) = false := by decide
      rw [if_neg hi] at hs
      injection hs with hs; subst hs
      simp only [b_cline_0, t_cline_0, r_cline, c1, go_sem, Nat.reduceDiv, Nat.reduceMod, ↓reduceIte, Nat.reduceEqDiff, Nat.reduceBEq, Nat.reduceSub, Nat.reduceLT, Nat.reduceAdd, Nat.reduceLeDiff, reduceCtorEq, Int.reduceEq, Int.reduceNe, Int.reduceLT, Int.reduceLE, Int.reduceToNat]
  · cases hs
end Go.Proofs.YtlkaaoekbmegkaaDoor
namespace Go.Proofs.YtlkaaoekbmegkaaDoor
set_option linter.all false
theorem dv_digF : ∀ k : Fin 16, Lib.indexByte digs (digs.getD k.1 0) = (k.1 : Int) := by decide
theorem dv_dig (k : Nat) (h : k < 16) : dv (digs.getD k 0) = (k : Int) := by unfold dv; exact dv_digF ⟨k, h⟩
theorem dig_dv (c : UInt8) (h : 0 ≤ dv c) : digs.getD (dv c).toNat 0 = c := by
  obtain ⟨o, ho⟩ : ∃ o : Nat, dv c = o := ⟨(dv c).toNat, by omega⟩
  rw [ho]
  unfold dv at ho
  have := (Lib.indexByte_some ho).1
  simp only [Int.toNat_natCast, List.getD_eq_getElem?_getD, this, Option.getD_some]
theorem hexL_at : ∀ (l : List UInt8) (j : Nat), j < l.length → (hexL l).getD (2 * j) 0 = digs.getD ((l.getD j 0).toNat / 16) 0 ∧ (hexL l).getD (2 * j + 1) 0 = digs.getD ((l.getD j 0).toNat % 16) 0
  | [], j, h => absurd h (by simp)
  | b :: l, 0, _ => ⟨rfl, rfl⟩
  | b :: l, j + 1, h => by
    have ih := hexL_at l j (by simpa using h)
    rw [show 2 * (j + 1) = 2 * j + 1 + 1 by omega, hexL, List.getD_cons_succ, List.getD_cons_succ, List.getD_cons_succ, List.getD_cons_succ, List.getD_cons_succ]
    exact ih
theorem hexL_ok : ∀ (l : List UInt8), ∀ c ∈ hexL l, 0 ≤ dv c
  | [], c, h => by cases h
  | b :: l, c, h => by
    have := b.toNat_lt
    rw [hexL, List.mem_cons, List.mem_cons] at h
    rcases h with rfl | rfl | h
    · rw [dv_dig _ (by omega)]; omega
    · rw [dv_dig _ (by omega)]; omega
    · exact hexL_ok l c h
theorem parse_hexN (id : List UInt8) (j : Nat) (hj : j < 20) (h : id.length = 20) : outN (hexL id) 40 j = (id.getD j 0).toNat := by
  obtain ⟨h1, h2⟩ := hexL_at id j (by omega)
  have := (id.getD j 0).toNat_lt
  unfold outN
  rw [if_pos (by omega), h1, h2, dv_dig _ (by omega), dv_dig _ (by omega), Int.toNat_natCast, Int.toNat_natCast]
  omega
theorem parse_hex (id : List UInt8) (h : id.length = 20) : outL (hexL id) 40 = id := by
  apply List.ext_getElem?
  intro j
  unfold outL
  by_cases hj : j < 20
  · rw [List.getElem?_map, List.getElem?_range hj, Option.map_some, parse_hexN id j hj h, UInt8.ofNat_toNat, List.getD_eq_getElem?_getD, List.getElem?_eq_getElem (by omega)]
    rfl
  · rw [List.getElem?_eq_none (by simp; omega), List.getElem?_eq_none (by omega)]
theorem outL_length (s : List UInt8) (i : Nat) : (outL s i).length = 20 := by unfold outL; simp
theorem outL_at (s : List UInt8) (i j : Nat) (h : j < 20) : ((outL s i).getD j 0).toNat = outN s i j := by
  have := outN_lt s i j
  unfold outL
  rw [List.getD_eq_getElem?_getD, List.getElem?_map, List.getElem?_range h]
  simp
  omega
theorem hex_parse (s : List UInt8) (h : s.length = 40) (hv : ∀ c ∈ s, 0 ≤ dv c) : hexL (outL s 40) = s := by
  have hat : ∀ n, n < 40 → 0 ≤ dv (s.getD n 0) := fun n hn => hv _ (by
    rw [List.getD_eq_getElem?_getD, List.getElem?_eq_getElem (by omega)]; exact List.getElem_mem _)
  have key : ∀ n, n < 40 → (hexL (outL s 40)).getD n 0 = s.getD n 0 := by
    intro n hn
    obtain ⟨h1, h2⟩ := hexL_at (outL s 40) (n / 2) (by rw [outL_length]; omega)
    rw [outL_at s 40 (n / 2) (by omega)] at h1 h2
    have hd : outN s 40 (n / 2) = 16 * (dv (s.getD (2 * (n / 2)) 0)).toNat + (dv (s.getD (2 * (n / 2) + 1) 0)).toNat := by
      unfold outN; rw [if_pos (by omega)]
    have l1 := dv_lt (s.getD (2 * (n / 2)) 0)
    have l2 := dv_lt (s.getD (2 * (n / 2) + 1) 0)
    rcases (show n = 2 * (n / 2) ∨ n = 2 * (n / 2) + 1 by omega) with e | e
    · have e1 : outN s 40 (n / 2) / 16 = (dv (s.getD (2 * (n / 2)) 0)).toNat := by omega
      rw [e1, dig_dv _ (hat _ (by omega)), ← e] at h1
      exact h1
    · have e1 : outN s 40 (n / 2) % 16 = (dv (s.getD (2 * (n / 2) + 1) 0)).toNat := by omega
      rw [e1, dig_dv _ (hat _ (by omega)), ← e] at h2
      exact h2
  apply List.ext_getElem?
  intro n
  by_cases hn : n < 40
  · have := key n hn
    rw [List.getD_eq_getElem?_getD, List.getD_eq_getElem?_getD, List.getElem?_eq_getElem (by rw [hexL_length, outL_length]; omega), List.getElem?_eq_getElem (by omega)] at this
    rw [List.getElem?_eq_getElem (by rw [hexL_length, outL_length]; omega), List.getElem?_eq_getElem (by omega)]
    simpa using this
  · rw [List.getElem?_eq_none (by rw [hexL_length, outL_length]; omega), List.getElem?_eq_none (by omega)]
end Go.Proofs.YtlkaaoekbmegkaaDoor
namespace Go.Proofs.YtlkaaoekbmegkaaDoor
set_option linter.all false
open Go.RowKit
theorem goodQ_iff (l : List UInt8) : goodQ l = true ↔ l.length = 40 ∧ ∀ c ∈ l, 0 ≤ dv c := by unfold goodQ; simp
theorem pOut_len (l : List UInt8) : (pOut l).length = 20 := by
  unfold pOut
  split
  · exact outL_length _ _
  · simp
theorem hex_good (l : List UInt8) (h : l.length = 20) : goodQ (hexL l) = true := (goodQ_iff _).2 ⟨by rw [hexL_length, h], hexL_ok l⟩
theorem pOut_hex (l : List UInt8) (h : l.length = 20) : pOut (hexL l) = l := by unfold pOut; rw [if_pos (hex_good l h), parse_hex l h]
theorem hex_pOut (l : List UInt8) (h : goodQ l = true) : hexL (pOut l) = l := by
  unfold pOut
  rw [if_pos h]
  exact hex_parse l ((goodQ_iff l).1 h).1 ((goodQ_iff l).1 h).2
end Go.Proofs.YtlkaaoekbmegkaaDoor
namespace Go.Proofs.YtlkaaoekbmegkaaDoor
set_option linter.all false
open Go.RowKit
open Go.Lib (index hasPrefix cut indexAny itoa)
def mustG (s : List UInt8) (b : Bool) (w : List UInt8) : List UInt8 × List UInt8 × Bool :=
  match lineG s w with
  | some (x, r) => (x, r, b)
  | none => ([], s, true)
theorem mustG_len (s : List UInt8) (b : Bool) (w : List UInt8) : (mustG s b w).1.length ≤ s.length ∧ (mustG s b w).2.1.length ≤ s.length := by
  unfold mustG
  cases h : lineG s w with
  | none => simp
  | some p => obtain ⟨x, r⟩ := p; have := lineG_len h; simp only; omega
def mustS : Spec := fun xs hp => match xs, hp with
  | [.ref 0 0 0, .str w], [.cells T [(1, .str s), (1, .bool b)]] => some ⟨.str (mustG s b w).1, [.cells T [(1, .str (mustG s b w).2.1), (1, .bool (mustG s b w).2.2)]], s.length ≤ 1000000000⟩
  | _, _ => none
theorem must_ok : FnOk Tryd.prog 25 mustS := by
  refine fn_slim2 Tryd.func25 s_cmust (Φ := phiL [(40, [], lineS)]) (phi_cons line_ok (by kernel_rfl) phi_nil) ?_
  intro xs hp r hs hp'
  unfold mustS at hs
  split at hs
  · injection hs with hs; subst hs
    rename_i w T s b
    have p1 : s.length ≤ 1000000000 := hp'
    refine ⟨len_le (by kernel_rfl), ?_⟩
    cases h : lineG s w with
    | none =>
      have e : mustG s b w = ([], s, true) := by unfold mustG; rw [h]
      rw [e]
      simp only [c_cmust, r_cmust, lineS, h, lineR, go_sem, Nat.reduceDiv, Nat.reduceMod, ↓reduceIte, Nat.reduceEqDiff, Nat.reduceBEq, Nat.reduceSub, Nat.reduceLT, Nat.reduceAdd, Nat.reduceLeDiff, reduceCtorEq, Int.reduceEq, Int.reduceNe, Int.reduceLT, Int.reduceLE, Int.reduceToNat]
      exact p1
    | some p =>
      obtain ⟨x, rr⟩ := p
      have e : mustG s b w = (x, rr, b) := by unfold mustG; rw [h]
      rw [e]
      simp only [c_cmust, r_cmust, lineS, h, lineR, go_sem, Nat.reduceDiv, Nat.reduceMod, ↓reduceIte, Nat.reduceEqDiff, Nat.reduceBEq, Nat.reduceSub, Nat.reduceLT, Nat.reduceAdd, Nat.reduceLeDiff, reduceCtorEq, Int.reduceEq, Int.reduceNe, Int.reduceLT, Int.reduceLE, Int.reduceToNat]
      exact p1
  · cases hs
def cidS : Spec := fun xs hp => match xs, hp with
  | [.ref 0 0 0, .str w], [.cells T [(1, .str s), (1, .bool b)]] => some ⟨.blob ((pOut (mustG s b w).1).map U), [.cells T [(1, .str (mustG s b w).2.1), (1, .bool ((mustG s b w).2.2 || !goodQ (mustG s b w).1))]], s.length ≤ 1000000000⟩
  | _, _ => none
set_option maxHeartbeats 2000000 in
theorem cid_ok : FnOk Tryd.prog 21 cidS := by
  refine fn_slim2 Tryd.func21 s_cid (Φ := phiL [(25, [], mustS), (37, [], parseS)]) (phi_cons must_ok (by kernel_rfl) (phi_cons parse_ok (by kernel_rfl) phi_nil)) ?_
  intro xs hp r hs hp'
  unfold cidS at hs
  split at hs
  · injection hs with hs; subst hs
    rename_i w T s b
    have p1 : s.length ≤ 1000000000 := hp'
    refine ⟨len_le (by kernel_rfl), ?_⟩
    have hl := mustG_len s b w
    have h20 := pOut_len (mustG s b w).1
    simp only [c_cid, mustS, parseS, go_sem, Nat.reduceDiv, Nat.reduceMod, ↓reduceIte, Nat.reduceEqDiff, Nat.reduceBEq, Nat.reduceSub, Nat.reduceLT, Nat.reduceAdd, Nat.reduceLeDiff, reduceCtorEq, Int.reduceEq, Int.reduceNe, Int.reduceLT, Int.reduceLE, Int.reduceToNat]
    generalize mustG s b w = M at *
    unfold pErr
    cases h1 : M.2.2 <;> cases h2 : goodQ M.1
    all_goals (
      simp only [k_cid_2, r_cid, mustS, parseS, h1, h2, h20, if_true, if_false, Bool.false_eq_true, go_sem, Nat.reduceDiv, Nat.reduceMod, ↓reduceIte, Nat.reduceEqDiff, Nat.reduceBEq, Nat.reduceSub, Nat.reduceLT, Nat.reduceAdd, Nat.reduceLeDiff, reduceCtorEq, Int.reduceEq, Int.reduceNe, Int.reduceLT, Int.reduceLE, Int.reduceToNat]
      repeat' apply And.intro
      all_goals first | omega | rfl | trivial | skip)
  · cases hs
noncomputable def cwhoS : Spec := fun xs hp => match xs, hp with
  | [.ref 0 0 0, .str w], [.cells T [(1, .str s), (1, .bool b)]] => some ⟨.agg (whoP (personV (mustG s b w).1)), [.cells T [(1, .str (mustG s b w).2.1), (1, .bool ((mustG s b w).2.2 || !personB (mustG s b w).1))]], s.length ≤ 1000000000⟩
  | _, _ => none
set_option maxHeartbeats 2000000 in
theorem cwho_ok : FnOk Tryd.prog 23 cwhoS := by
  refine fn_slim2 Tryd.func23 s_cwho (Φ := phiL [(25, [], mustS), (27, [], personS)]) (phi_cons must_ok (by kernel_rfl) (phi_cons person_ok (by kernel_rfl) phi_nil)) ?_
  intro xs hp r hs hp'
  unfold cwhoS at hs
  split at hs
  · injection hs with hs; subst hs
    rename_i w T s b
    have p1 : s.length ≤ 1000000000 := hp'
    refine ⟨len_le (by kernel_rfl), ?_⟩
    have hl := mustG_len s b w
    simp only [c_cwho, mustS, personS, personR, whoP, go_sem, Nat.reduceDiv, Nat.reduceMod, ↓reduceIte, Nat.reduceEqDiff, Nat.reduceBEq, Nat.reduceSub, Nat.reduceLT, Nat.reduceAdd, Nat.reduceLeDiff, reduceCtorEq, Int.reduceEq, Int.reduceNe, Int.reduceLT, Int.reduceLE, Int.reduceToNat]
    generalize mustG s b w = M at *
    generalize personV M.1 = V at *
    cases h1 : M.2.2 <;> cases h2 : personB M.1
    all_goals (
      simp only [k_cwho_2, r_cwho, h1, h2, if_true, if_false, Bool.false_eq_true, go_sem, Nat.reduceDiv, Nat.reduceMod, ↓reduceIte, Nat.reduceEqDiff, Nat.reduceBEq, Nat.reduceSub, Nat.reduceLT, Nat.reduceAdd, Nat.reduceLeDiff, reduceCtorEq, Int.reduceEq, Int.reduceNe, Int.reduceLT, Int.reduceLE, Int.reduceToNat]
      repeat' apply And.intro
      all_goals first | omega | rfl | trivial | skip)
  · cases hs
end Go.Proofs.YtlkaaoekbmegkaaDoor
namespace Go.Proofs.YtlkaaoekbmegkaaDoor
set_option linter.all false
open Go.RowKit
def b_cextras_0 : ACode := (.block 3 (.seq (.reg none [⟨(some 40), (.mv (.t 0)), none⟩, ⟨(some 41), (.nck (.t 40)), none⟩, ⟨(some 42), (.fa 0 (.t 41)), none⟩, ⟨(some 43), (.buildSl 9 1 [(.c (.str [32]))]), none⟩, ⟨(some 44), (.call 40 [(.t 42), (.t 43)]), none⟩, ⟨(some 39), (.mv (.t 44)), none⟩, ⟨(some 45), (.ext (.t 39) 0), none⟩, ⟨(some 46), (.ext (.t 39) 1), none⟩, ⟨(some 9), (.mv (.t 45)), none⟩, ⟨(some 10), (.mv (.t 46)), none⟩]) (.seq (.seq (.reg none [⟨(some 47), (.mv (.t 10)), none⟩, ⟨(some 48), (.bin .lss (.t 47) (.c (.int .i64 0))), none⟩]) (.cond (.t 48) (.exit 2) .skip)) (.reg none [⟨(some 49), (.fa 1 (.t 8)), none⟩, ⟨(some 50), (.ld (.one (.str [])) (.t 49)), none⟩, ⟨(some 51), (.mv (.t 9)), none⟩, ⟨(some 52), (.bin .add (.c (.str [10])) (.t 51)), none⟩, ⟨(some 53), (.bin .add (.t 50) (.t 52)), none⟩, ⟨(some 54), (.fa 1 (.t 8)), none⟩, ⟨none, (.st (.one (.str [])) (.t 54) (.t 53)), none⟩]))))
def t_cextras_0 : ACode := (.seq (.reg none [⟨(some 55), (.mv (.t 0)), none⟩, ⟨(some 56), (.mv (.t 0)), none⟩, ⟨(some 57), (.nck (.t 56)), none⟩, ⟨(some 58), (.fa 0 (.t 57)), none⟩, ⟨(some 59), (.fa 1 (.t 58)), none⟩, ⟨(some 60), (.ld (.one (.bool false)) (.t 59)), none⟩, ⟨(some 61), (.mv (.t 60)), none⟩, ⟨(some 62), (.mv (.t 7)), (some (61, false))⟩, ⟨(some 63), (.un .not (.t 62)), (some (61, false))⟩, ⟨(some 64), (.pick (.t 61) (.c (.bool true)) (.t 63)), none⟩, ⟨(some 65), (.mv (.t 64)), none⟩, ⟨(some 66), (.ld (.st 2) (.t 8)), (some (65, false))⟩, ⟨(some 67), (.call 16 [(.t 66)]), (some (65, false))⟩, ⟨(some 68), (.un .not (.t 67)), (some (65, false))⟩, ⟨(some 69), (.pick (.t 65) (.c (.bool true)) (.t 68)), none⟩, ⟨(some 70), (.nck (.t 55)), none⟩, ⟨(some 71), (.fa 0 (.t 70)), none⟩, ⟨(some 72), (.fa 1 (.t 71)), none⟩, ⟨none, (.st (.one (.bool false)) (.t 72) (.t 69)), none⟩]) (.reg none [⟨(some 73), (.mv (.t 3)), none⟩, ⟨(some 74), (.ld (.st 2) (.t 8)), none⟩, ⟨(some 75), (.buildSl 54 2 [(.t 74)]), none⟩, ⟨(some 76), (.app 54 2 32 (.t 73) (.t 75)), none⟩, ⟨(some 3), (.mv (.t 76)), none⟩]))
def b_cextras_1 : ACode := (.seq (.seq (.reg none [⟨(some 11), (.mv (.t 0)), none⟩, ⟨(some 12), (.nck (.t 11)), none⟩, ⟨(some 13), (.fa 0 (.t 12)), none⟩, ⟨(some 14), (.fa 1 (.t 13)), none⟩, ⟨(some 15), (.ld (.one (.bool false)) (.t 14)), none⟩, ⟨(some 16), (.un .not (.t 15)), none⟩, ⟨(some 17), (.mv (.t 16)), none⟩, ⟨(some 18), (.mv (.t 0)), (some (17, true))⟩, ⟨(some 19), (.nck (.t 18)), (some (17, true))⟩, ⟨(some 20), (.fa 0 (.t 19)), (some (17, true))⟩, ⟨(some 21), (.fa 0 (.t 20)), (some (17, true))⟩, ⟨(some 22), (.ld (.one (.str [])) (.t 21)), (some (17, true))⟩, ⟨(some 23), (.call 22 [(.t 22), (.c (.str [10]))]), (some (17, true))⟩, ⟨(some 24), (.un .not (.t 23)), (some (17, true))⟩, ⟨(some 25), (.pick (.t 17) (.t 24) (.c (.bool false))), none⟩]) (.cond (.t 25) .skip (.exit 0))) (.block 1 (.seq (.reg none [⟨(some 26), (.mv (.t 0)), none⟩, ⟨(some 27), (.nck (.t 26)), none⟩, ⟨(some 28), (.fa 0 (.t 27)), none⟩, ⟨(some 29), (.call 25 [(.t 28), (.c (.str []))]), none⟩, ⟨(some 4), (.mv (.t 29)), none⟩]) (.seq (.reg none [⟨(some 31), (.mv (.t 4)), none⟩, ⟨(some 32), (.call 39 [(.t 31), (.c (.str [32]))]), none⟩, ⟨(some 30), (.mv (.t 32)), none⟩, ⟨(some 33), (.ext (.t 30) 0), none⟩, ⟨(some 34), (.ext (.t 30) 1), none⟩, ⟨(some 35), (.ext (.t 30) 2), none⟩, ⟨(some 5), (.mv (.t 33)), none⟩, ⟨(some 6), (.mv (.t 34)), none⟩, ⟨(some 7), (.mv (.t 35)), none⟩]) (.seq (.reg none [⟨(some 36), (.mv (.t 5)), none⟩, ⟨(some 37), (.mv (.t 6)), none⟩, ⟨(some 38), (.build [(1, (.str [])), (1, (.str []))] [(0, (1, (.t 36))), (1, (1, (.t 37)))]), none⟩, ⟨(some 8), (.new 54 [(1, (.str [])), (1, (.str []))]), none⟩, ⟨none, (.st (.st 2) (.t 8) (.t 38)), none⟩]) (.seq (.block 2 (.loop b_cextras_0)) t_cextras_0))))))
def t_cextras_1 : ACode := (.seq (.reg none [⟨(some 77), (.mv (.t 3)), none⟩, ⟨(some 2), (.mv (.t 77)), none⟩]) .ret)
def c_cextras : ACode := (.seq (.reg none [⟨(some 2), (.mv (.c (.con (.slice none 0 0)))), none⟩]) (.seq (.reg none [⟨(some 3), (.mv (.c (.con (.slice none 0 0)))), none⟩]) (.seq (.block 0 (.loop b_cextras_1)) t_cextras_1)))
def r_cextras : List ARes := [(.t 2)]
theorem s_cextras : slimF Tryd.prog Tryd.f24 = some (c_cextras, r_cextras) := by kernel_rfl
def b_cpar_0 : ACode := (.seq (.seq (.reg none [⟨(some 16), (.mv (.t 4)), none⟩, ⟨(some 17), (.nck (.t 16)), none⟩, ⟨(some 18), (.fa 0 (.t 17)), none⟩, ⟨(some 19), (.fa 1 (.t 18)), none⟩, ⟨(some 20), (.ld (.one (.bool false)) (.t 19)), none⟩, ⟨(some 21), (.un .not (.t 20)), none⟩, ⟨(some 22), (.mv (.t 21)), none⟩, ⟨(some 23), (.mv (.t 4)), (some (22, true))⟩, ⟨(some 24), (.nck (.t 23)), (some (22, true))⟩, ⟨(some 25), (.fa 0 (.t 24)), (some (22, true))⟩, ⟨(some 26), (.fa 0 (.t 25)), (some (22, true))⟩, ⟨(some 27), (.ld (.one (.str [])) (.t 26)), (some (22, true))⟩, ⟨(some 28), (.call 22 [(.t 27), (.c (.str [112, 97, 114, 101, 110, 116, 32]))]), (some (22, true))⟩, ⟨(some 29), (.pick (.t 22) (.t 28) (.c (.bool false))), none⟩]) (.cond (.t 29) .skip (.exit 0))) (.block 1 (.seq (.reg none [⟨(some 30), (.mv (.t 4)), none⟩, ⟨(some 31), (.call 21 [(.t 30), (.c (.str [112, 97, 114, 101, 110, 116, 32]))]), none⟩, ⟨(some 6), (.new 30 [(20, (.blob (List.replicate 20 (.int .u8 0))))]), none⟩, ⟨none, (.st (.arr 20) (.t 6) (.t 31)), none⟩]) (.reg none [⟨(some 32), (.fa 20 (.t 5)), none⟩, ⟨(some 33), (.ld (.one (.con (.slice none 0 0))) (.t 32)), none⟩, ⟨(some 34), (.ld (.arr 20) (.t 6)), none⟩, ⟨(some 35), (.buildSl 30 20 [(.t 34)]), none⟩, ⟨(some 36), (.app 30 20 20 (.t 33) (.t 35)), none⟩, ⟨(some 37), (.fa 20 (.t 5)), none⟩, ⟨none, (.st (.one (.con (.slice none 0 0))) (.t 37) (.t 36)), none⟩]))))
def t_cpar_0 : ACode := (.seq (.reg none [⟨(some 38), (.mv (.t 4)), none⟩, ⟨(some 39), (.call 23 [(.t 38), (.c (.str [97, 117, 116, 104, 111, 114, 32]))]), none⟩, ⟨(some 40), (.fa 21 (.t 5)), none⟩, ⟨none, (.st (.st 4) (.t 40) (.t 39)), none⟩]) (.seq (.reg none [⟨(some 41), (.mv (.t 4)), none⟩, ⟨(some 42), (.call 23 [(.t 41), (.c (.str [99, 111, 109, 109, 105, 116, 116, 101, 114, 32]))]), none⟩, ⟨(some 43), (.fa 25 (.t 5)), none⟩, ⟨none, (.st (.st 4) (.t 43) (.t 42)), none⟩]) (.seq (.reg none [⟨(some 44), (.mv (.t 4)), none⟩, ⟨(some 45), (.call 24 [(.t 44)]), none⟩, ⟨(some 46), (.fa 29 (.t 5)), none⟩, ⟨none, (.st (.one (.con (.slice none 0 0))) (.t 46) (.t 45)), none⟩]) (.seq (.reg none [⟨(some 47), (.mv (.t 4)), none⟩, ⟨(some 48), (.nck (.t 47)), none⟩, ⟨(some 49), (.fa 0 (.t 48)), none⟩, ⟨(some 50), (.call 25 [(.t 49), (.c (.str []))]), none⟩, ⟨(some 7), (.mv (.t 50)), none⟩]) (.seq (.reg none [⟨(some 51), (.mv (.t 4)), none⟩, ⟨(some 52), (.nck (.t 51)), none⟩, ⟨(some 53), (.fa 0 (.t 52)), none⟩, ⟨(some 54), (.fa 0 (.t 53)), none⟩, ⟨(some 55), (.ld (.one (.str [])) (.t 54)), none⟩, ⟨(some 56), (.fa 30 (.t 5)), none⟩, ⟨none, (.st (.one (.str [])) (.t 56) (.t 55)), none⟩]) (.seq (.seq (.reg none [⟨(some 57), (.mv (.t 4)), none⟩, ⟨(some 58), (.nck (.t 57)), none⟩, ⟨(some 59), (.fa 0 (.t 58)), none⟩, ⟨(some 60), (.fa 1 (.t 59)), none⟩, ⟨(some 61), (.ld (.one (.bool false)) (.t 60)), none⟩, ⟨(some 62), (.mv (.t 61)), none⟩, ⟨(some 63), (.mv (.t 7)), (some (62, false))⟩, ⟨(some 64), (.bin .neq (.t 63) (.c (.str []))), (some (62, false))⟩, ⟨(some 65), (.pick (.t 62) (.c (.bool true)) (.t 64)), none⟩]) (.cond (.t 65) (.seq (.reg none [⟨(some 66), (.build [(20, (.blob (List.replicate 20 (.int .u8 0)))), (1, (.con (.slice none 0 0))), (1, (.str [])), (1, (.str [])), (1, (.int .i64 0)), (1, (.str [])), (1, (.str [])), (1, (.str [])), (1, (.int .i64 0)), (1, (.str [])), (1, (.con (.slice none 0 0))), (1, (.str []))] []), none⟩, ⟨none, (.st (.st 31) (.t 2) (.t 66)), none⟩, ⟨(some 3), (.mv (.c (.int .i64 4))), none⟩]) .ret) .skip)) (.seq (.reg none [⟨(some 67), (.ld (.st 31) (.t 5)), none⟩, ⟨none, (.st (.st 31) (.t 2) (.t 67)), none⟩, ⟨(some 3), (.mv (.c (.int .i64 0))), none⟩]) .ret)))))))
def c_cpar : ACode := (.seq (.reg none [⟨(some 2), (.new 35 [(20, (.blob (List.replicate 20 (.int .u8 0)))), (1, (.con (.slice none 0 0))), (1, (.str [])), (1, (.str [])), (1, (.int .i64 0)), (1, (.str [])), (1, (.str [])), (1, (.str [])), (1, (.int .i64 0)), (1, (.str [])), (1, (.con (.slice none 0 0))), (1, (.str []))]), none⟩, ⟨(some 3), (.mv (.c (.int .i64 0))), none⟩]) (.seq (.reg none [⟨(some 8), (.mv (.t 0)), none⟩, ⟨(some 9), (.toStr (.t 8)), none⟩, ⟨(some 10), (.build [(1, (.str [])), (1, (.bool false))] [(0, (1, (.t 9)))]), none⟩, ⟨(some 11), (.build [(1, (.str [])), (1, (.bool false))] [(0, (2, (.t 10)))]), none⟩, ⟨(some 12), (.box 73 2 (.t 11)), none⟩, ⟨(some 4), (.mv (.t 12)), none⟩]) (.seq (.reg none [⟨(some 13), (.mv (.t 4)), none⟩, ⟨(some 14), (.call 21 [(.t 13), (.c (.str [116, 114, 101, 101, 32]))]), none⟩, ⟨(some 15), (.build [(20, (.blob (List.replicate 20 (.int .u8 0)))), (1, (.con (.slice none 0 0))), (1, (.str [])), (1, (.str [])), (1, (.int .i64 0)), (1, (.str [])), (1, (.str [])), (1, (.str [])), (1, (.int .i64 0)), (1, (.str [])), (1, (.con (.slice none 0 0))), (1, (.str []))] [(0, (20, (.t 14)))]), none⟩, ⟨(some 5), (.new 35 [(20, (.blob (List.replicate 20 (.int .u8 0)))), (1, (.con (.slice none 0 0))), (1, (.str [])), (1, (.str [])), (1, (.int .i64 0)), (1, (.str [])), (1, (.str [])), (1, (.str [])), (1, (.int .i64 0)), (1, (.str [])), (1, (.con (.slice none 0 0))), (1, (.str []))]), none⟩, ⟨none, (.st (.st 31) (.t 5) (.t 15)), none⟩]) (.seq (.block 0 (.loop b_cpar_0)) t_cpar_0))))
def r_cpar : List ARes := [(.c 2 (.st 31)), (.t 3)]
theorem s_cpar : slimF Tryd.prog Tryd.f7 = some (c_cpar, r_cpar) := by kernel_rfl
def c_cpart : ACode := (.seq (.reg none [⟨(some 2), (.new 47 [(20, (.blob (List.replicate 20 (.int .u8 0)))), (1, (.int .i64 0)), (1, (.str [])), (1, (.str [])), (1, (.str [])), (1, (.int .i64 0)), (1, (.str [])), (1, (.str []))]), none⟩, ⟨(some 3), (.mv (.c (.int .i64 0))), none⟩]) (.seq (.reg none [⟨(some 7), (.mv (.t 0)), none⟩, ⟨(some 8), (.toStr (.t 7)), none⟩, ⟨(some 9), (.build [(1, (.str [])), (1, (.bool false))] [(0, (1, (.t 8)))]), none⟩, ⟨(some 10), (.build [(1, (.str [])), (1, (.bool false))] [(0, (2, (.t 9)))]), none⟩, ⟨(some 11), (.box 73 2 (.t 10)), none⟩, ⟨(some 4), (.mv (.t 11)), none⟩]) (.seq (.reg none [⟨(some 12), (.mv (.t 4)), none⟩, ⟨(some 13), (.call 21 [(.t 12), (.c (.str [111, 98, 106, 101, 99, 116, 32]))]), none⟩, ⟨(some 14), (.build [(20, (.blob (List.replicate 20 (.int .u8 0)))), (1, (.int .i64 0)), (1, (.str [])), (1, (.str [])), (1, (.str [])), (1, (.int .i64 0)), (1, (.str [])), (1, (.str []))] [(0, (20, (.t 13)))]), none⟩, ⟨(some 5), (.new 47 [(20, (.blob (List.replicate 20 (.int .u8 0)))), (1, (.int .i64 0)), (1, (.str [])), (1, (.str [])), (1, (.str [])), (1, (.int .i64 0)), (1, (.str [])), (1, (.str []))]), none⟩, ⟨none, (.st (.st 27) (.t 5) (.t 14)), none⟩]) (.seq (.reg none [⟨(some 15), (.mv (.t 4)), none⟩, ⟨(some 16), (.nck (.t 15)), none⟩, ⟨(some 17), (.fa 0 (.t 16)), none⟩, ⟨(some 18), (.call 25 [(.t 17), (.c (.str [116, 121, 112, 101, 32]))]), none⟩, ⟨(some 19), (.call 28 [(.t 18)]), none⟩, ⟨(some 20), (.fa 20 (.t 5)), none⟩, ⟨none, (.st (.one (.int .i64 0)) (.t 20) (.t 19)), none⟩]) (.seq (.reg none [⟨(some 21), (.mv (.t 4)), none⟩, ⟨(some 22), (.nck (.t 21)), none⟩, ⟨(some 23), (.fa 0 (.t 22)), none⟩, ⟨(some 24), (.call 25 [(.t 23), (.c (.str [116, 97, 103, 32]))]), none⟩, ⟨(some 25), (.fa 21 (.t 5)), none⟩, ⟨none, (.st (.one (.str [])) (.t 25) (.t 24)), none⟩]) (.seq (.reg none [⟨(some 26), (.mv (.t 4)), none⟩, ⟨(some 27), (.call 23 [(.t 26), (.c (.str [116, 97, 103, 103, 101, 114, 32]))]), none⟩, ⟨(some 28), (.fa 22 (.t 5)), none⟩, ⟨none, (.st (.st 4) (.t 28) (.t 27)), none⟩]) (.seq (.reg none [⟨(some 29), (.mv (.t 4)), none⟩, ⟨(some 30), (.nck (.t 29)), none⟩, ⟨(some 31), (.fa 0 (.t 30)), none⟩, ⟨(some 32), (.call 25 [(.t 31), (.c (.str []))]), none⟩, ⟨(some 6), (.mv (.t 32)), none⟩]) (.seq (.reg none [⟨(some 33), (.mv (.t 4)), none⟩, ⟨(some 34), (.nck (.t 33)), none⟩, ⟨(some 35), (.fa 0 (.t 34)), none⟩, ⟨(some 36), (.fa 0 (.t 35)), none⟩, ⟨(some 37), (.ld (.one (.str [])) (.t 36)), none⟩, ⟨(some 38), (.fa 26 (.t 5)), none⟩, ⟨none, (.st (.one (.str [])) (.t 38) (.t 37)), none⟩]) (.seq (.seq (.reg none [⟨(some 39), (.mv (.t 4)), none⟩, ⟨(some 40), (.nck (.t 39)), none⟩, ⟨(some 41), (.fa 0 (.t 40)), none⟩, ⟨(some 42), (.fa 1 (.t 41)), none⟩, ⟨(some 43), (.ld (.one (.bool false)) (.t 42)), none⟩, ⟨(some 44), (.mv (.t 43)), none⟩, ⟨(some 45), (.fa 20 (.t 5)), (some (44, false))⟩, ⟨(some 46), (.ld (.one (.int .i64 0)) (.t 45)), (some (44, false))⟩, ⟨(some 47), (.bin .eql (.t 46) (.c (.int .i64 0))), (some (44, false))⟩, ⟨(some 48), (.pick (.t 44) (.c (.bool true)) (.t 47)), none⟩, ⟨(some 49), (.mv (.t 48)), none⟩, ⟨(some 50), (.fa 21 (.t 5)), (some (49, false))⟩, ⟨(some 51), (.ld (.one (.str [])) (.t 50)), (some (49, false))⟩, ⟨(some 52), (.bin .eql (.t 51) (.c (.str []))), (some (49, false))⟩, ⟨(some 53), (.pick (.t 49) (.c (.bool true)) (.t 52)), none⟩, ⟨(some 54), (.mv (.t 53)), none⟩, ⟨(some 55), (.mv (.t 6)), (some (54, false))⟩, ⟨(some 56), (.bin .neq (.t 55) (.c (.str []))), (some (54, false))⟩, ⟨(some 57), (.pick (.t 54) (.c (.bool true)) (.t 56)), none⟩]) (.cond (.t 57) (.seq (.reg none [⟨(some 58), (.build [(20, (.blob (List.replicate 20 (.int .u8 0)))), (1, (.int .i64 0)), (1, (.str [])), (1, (.str [])), (1, (.str [])), (1, (.int .i64 0)), (1, (.str [])), (1, (.str []))] []), none⟩, ⟨none, (.st (.st 27) (.t 2) (.t 58)), none⟩, ⟨(some 3), (.mv (.c (.int .i64 4))), none⟩]) .ret) .skip)) (.seq (.reg none [⟨(some 59), (.ld (.st 27) (.t 5)), none⟩, ⟨none, (.st (.st 27) (.t 2) (.t 59)), none⟩, ⟨(some 3), (.mv (.c (.int .i64 0))), none⟩]) .ret))))))))))
def r_cpart : List ARes := [(.c 2 (.st 27)), (.t 3)]
theorem s_cpart : slimF Tryd.prog Tryd.f11 = some (c_cpart, r_cpart) := by kernel_rfl
end Go.Proofs.YtlkaaoekbmegkaaDoor
