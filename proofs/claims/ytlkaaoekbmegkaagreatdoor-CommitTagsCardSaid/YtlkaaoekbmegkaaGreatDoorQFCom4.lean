import Derived.Test.YtlkaaoekbmegkaaGreatDoorQFBld
import Derived.Test.YtlkaaoekbmegkaaGreatDoorQFFDec
import Derived.Test.YtlkaaoekbmegkaaGreatDoorChecked
import Derived.Test.YtlkaaoekbmegkaaGreatDoorQAMS
import Derived.Test.YtlkaaoekbmegkaaGreatDoorQShaLaw
import Derived.Lib.IndexLaws
/- Package commit on abstract values: a text's person, a tag's body, lines that are taken. -/
namespace Go.Proofs.YtlkaaoekbmegkaaGreatDoor
set_option linter.all false
open Go.RowKit
open Go.Lib (index hasPrefix cut indexAny itoa)
theorem cutl1 (s p : List UInt8) : (cut s p).1.length ≤ s.length := by
  unfold cut; split
  · simp only [List.length_take]; omega
  · simp
theorem cutl2 (s p : List UInt8) : (cut s p).2.1.length ≤ s.length := by
  unfold cut; split
  · simp only [List.length_drop]; omega
  · simp
noncomputable def timeN (s : List UInt8) : Int := if decB s = true then (decN s : Int) else 0
noncomputable def fdecT : Spec := fun xs hp => match xs, hp with
  | [.str s], [] => some ⟨.tup [.int .i64 (timeN s), .int .i64 (if decB s = true then 0 else 4)], [], s.length ≤ 281474976710656⟩
  | _, _ => none
theorem fdecT_ok : FnOk Tryz.prog 45 fdecT := by
  refine fdec_ok.imp fun xs hp r hs hp' => ?_
  unfold fdecT at hs
  split at hs
  · rename_i s
    injection hs with hs; subst hs
    by_cases h : decB s = true
    · refine ⟨⟨.tup [.int .i64 (decN s : Int), .int .i64 0], [], s.length ≤ 281474976710656⟩, ?_, hp', ?_, rfl⟩
      · show (if decB s = true then _ else _) = _
        rw [if_pos h]
      · show AV.tup [.int .i64 (decN s : Int), .int .i64 0] = AV.tup [.int .i64 (timeN s), .int .i64 (if decB s = true then 0 else 4)]
        rw [if_pos h, show timeN s = (decN s : Int) from if_pos h]
    · refine ⟨⟨.tup [.int .i64 0, .int .i64 4], [], s.length ≤ 281474976710656⟩, ?_, hp', ?_, rfl⟩
      · show (if decB s = true then _ else _) = _
        rw [if_neg h]
      · show AV.tup [.int .i64 0, .int .i64 4] = AV.tup [.int .i64 (timeN s), .int .i64 (if decB s = true then 0 else 4)]
        rw [if_neg h, show timeN s = 0 from if_neg h]
  · cases hs
noncomputable def personW (s : List UInt8) : WhoL :=
  ⟨(cut s [32, 60]).1, (cut (cut s [32, 60]).2.1 [62, 32]).1, timeN (cut (cut (cut s [32, 60]).2.1 [62, 32]).2.1 [32]).1, (cut (cut (cut s [32, 60]).2.1 [62, 32]).2.1 [32]).2.1⟩
noncomputable def personB (s : List UInt8) : Bool :=
  (cut s [32, 60]).2.2 && (cut (cut s [32, 60]).2.1 [62, 32]).2.2 && (cut (cut (cut s [32, 60]).2.1 [62, 32]).2.1 [32]).2.2 && decB (cut (cut (cut s [32, 60]).2.1 [62, 32]).2.1 [32]).1 && rightW (personW s)
def who0 : WhoL := ⟨[], [], 0, []⟩
noncomputable def personV (s : List UInt8) : WhoL := if personB s = true then personW s else who0
noncomputable def personR (s : List UInt8) (pr : Prop) : Option Ret := some ⟨.tup [.agg (whoP (personV s)), .int .i64 (if personB s = true then 0 else 4)], [], pr⟩
noncomputable def personS : Spec := fun xs hp => match xs, hp with
  | [.str s], [] => personR s (s.length ≤ 1000000000)
  | _, _ => none
theorem timeN_in (s : List UInt8) : True := trivial
set_option maxHeartbeats 2000000 in
theorem person_ok : FnOk Tryz.prog 19 personS := by
  refine fn_slim2 Tryz.func19 s_cperson (Φ := phiL [(44, [], cutS), (45, [], fdecT), (40, [], crightS)]) (phi_cons cut_ok (by kernel_rfl) (phi_cons fdecT_ok (by kernel_rfl) (phi_cons cright_ok (by kernel_rfl) phi_nil))) ?_
  intro xs hp r hs hp'
  unfold personS personR at hs
  split at hs
  · injection hs with hs; subst hs
    rename_i s
    have p1 : s.length ≤ 1000000000 := hp'
    refine ⟨len_le (by kernel_rfl), ?_⟩
    have hA1 := cutl1 s [32, 60]
    have hA2 := cutl2 s [32, 60]
    have hB1 := cutl1 (cut s [32, 60]).2.1 [62, 32]
    have hB2 := cutl2 (cut s [32, 60]).2.1 [62, 32]
    have hC1 := cutl1 (cut (cut s [32, 60]).2.1 [62, 32]).2.1 [32]
    have hC2 := cutl2 (cut (cut s [32, 60]).2.1 [62, 32]).2.1 [32]
    unfold personV whoP who0 personB personW
    simp only [c_cperson, cutS, fdecT, go_sem, Nat.reduceDiv, Nat.reduceMod, ↓reduceIte, Nat.reduceEqDiff, Nat.reduceBEq, Nat.reduceSub, Nat.reduceLT, Nat.reduceAdd, Nat.reduceLeDiff, reduceCtorEq, Int.reduceEq, Int.reduceNe, Int.reduceLT, Int.reduceLE, Int.reduceToNat]
    generalize cut s [32, 60] = A at *
    generalize cut A.2.1 [62, 32] = B at *
    generalize cut B.2.1 [32] = C at *
    refine ⟨by omega, by omega, by omega, by omega, ?_⟩
    cases h1 : A.2.2 <;> cases h2 : B.2.2 <;> cases h3 : C.2.2 <;> cases h4 : decB C.1
    all_goals (try simp only [k_cperson_6, r_cperson, crightS, Bool.false_and, Bool.and_false, Bool.true_and, if_true, if_false, Bool.false_eq_true, go_sem, Nat.reduceDiv, Nat.reduceMod, ↓reduceIte, Nat.reduceEqDiff, Nat.reduceBEq, Nat.reduceSub, Nat.reduceLT, Nat.reduceAdd, Nat.reduceLeDiff, reduceCtorEq, Int.reduceEq, Int.reduceNe, Int.reduceLT, Int.reduceLE, Int.reduceToNat])
    cases h5 : rightW ⟨A.1, B.1, timeN C.1, C.2.1⟩
    all_goals simp only [k_cperson_6, r_cperson, crightS, h5, Bool.false_and, Bool.and_false, Bool.true_and, if_true, if_false, Bool.false_eq_true, go_sem, Nat.reduceDiv, Nat.reduceMod, ↓reduceIte, Nat.reduceEqDiff, Nat.reduceBEq, Nat.reduceSub, Nat.reduceLT, Nat.reduceAdd, Nat.reduceLeDiff, reduceCtorEq, Int.reduceEq, Int.reduceNe, Int.reduceLT, Int.reduceLE, Int.reduceToNat]
    all_goals omega
  · cases hs
/-! ### A tag's body -/
structure TagL where
  object : List UInt8
  kind : Int
  name : List UInt8
  tagger : WhoL
  message : List UInt8
def rightT (t : TagL) : Bool := rightW t.tagger && !decide (wordL t.kind = []) && !decide (t.name = []) && !t.name.contains 10
def tagL (o : List UInt8) (k : Int) (n w m : List UInt8) : List UInt8 :=
  [111, 98, 106, 101, 99, 116, 32] ++ hexL o ++ [10, 116, 121, 112, 101, 32] ++ wordL k ++ [10, 116, 97, 103, 32] ++ n ++ [10, 116, 97, 103, 103, 101, 114, 32] ++ w ++ [10, 10] ++ m
def bodyT (t : TagL) : List UInt8 := tagL t.object t.kind t.name (textW t.tagger) t.message
def prtR (t : TagL) (pr : Prop) : Option Ret := if rightT t = true then some ⟨.tup [.own 0 0, .int .i64 0], [.row 5 1 0 (Bs (bodyT t))], pr⟩ else some ⟨.tup [.con (.slice none 0 0), .int .i64 4], [], pr⟩
def sizeOkT (t : TagL) : Prop := t.object.length = 20 ∧ t.name.length ≤ 1000000 ∧ t.message.length ≤ 1000000 ∧ t.tagger.name.length + t.tagger.mail.length + t.tagger.zone.length ≤ 1000000
def prtS : Spec := fun xs hp => match xs, hp with
  | [.agg [(20, .blob o), (1, .int .i64 k), (1, .str n), (1, .str wn), (1, .str wm), (1, .int .i64 wt), (1, .str wz), (1, .str m)]], [] =>
    prtR ⟨unV o, k, n, ⟨wn, wm, wt, wz⟩, m⟩ (o = (unV o).map U ∧ sizeOkT ⟨unV o, k, n, ⟨wn, wm, wt, wz⟩, m⟩)
  | _, _ => none
theorem prtR_pre {t : TagL} {pr : Prop} {r : Ret} (h : prtR t pr = some r) (hr : r.pre) : pr := by
  unfold prtR at h
  split at h <;> (injection h with h; subst h; exact hr)
theorem wordL_len6 (k : Int) : (wordL k).length ≤ 6 := by unfold wordL; split <;> simp
theorem textW_len {w : WhoL} (h : rightW w = true) : (textW w).length ≤ w.name.length + w.mail.length + w.zone.length + 26 := by
  obtain ⟨h1, h2⟩ := rightW_time h
  have := Lib.itoa_length_le w.time (by omega) (by omega)
  simp only [textW, List.length_append, List.length_cons, List.length_nil]
  omega
set_option maxHeartbeats 2000000 in
theorem prt_ok : FnOk Tryz.prog 27 prtS := by
  refine fn_slim2 Tryz.func27 s_cprt (Φ := phiL [(15, [], textS), (58, [], wordS), (59, [], containsS), (34, [], hexS)]) (phi_cons ctext_ok (by kernel_rfl) (phi_cons oword_ok (by kernel_rfl) (phi_cons contains_ok (by kernel_rfl) (phi_cons hex_ok (by kernel_rfl) phi_nil)))) ?_
  intro xs hp r hs hp'
  unfold prtS at hs
  split at hs
  · rename_i o k n wn wm wt wz m
    obtain ⟨q1, z1, z2, z3, z4⟩ := prtR_pre hs hp'
    generalize unV o = o at *
    subst q1
    simp only at z1 z2 z3 z4
    refine ⟨len_le (by kernel_rfl), ?_⟩
    simp only [c_cprt, textS, textR, go_sem, Nat.reduceDiv, Nat.reduceMod, ↓reduceIte, Nat.reduceEqDiff, Nat.reduceBEq, Nat.reduceSub, Nat.reduceLT, Nat.reduceAdd, Nat.reduceLeDiff, reduceCtorEq, Int.reduceEq, Int.reduceNe, Int.reduceLT, Int.reduceLE, Int.reduceToNat]
    refine ⟨by omega, ?_⟩
    have hl := fun h => textW_len (w := ⟨wn, wm, wt, wz⟩) h
    simp only at hl
    have hw := wordL_len6 k
    have hh := hexL_length o
    generalize ha : textW ⟨wn, wm, wt, wz⟩ = a at *
    have bad : rightT ⟨o, k, n, ⟨wn, wm, wt, wz⟩, m⟩ = false → r = ⟨.tup [.con (.slice none 0 0), .int .i64 4], [], r.pre⟩ := by
      intro h
      unfold prtR at hs
      rw [if_neg (by rw [h]; simp)] at hs
      injection hs with hs; subst hs; rfl
    cases h1 : rightW ⟨wn, wm, wt, wz⟩ with
    | false =>
      rw [bad (by unfold rightT; simp only [h1]; rfl)]
      simp only [k_cprt_2, r_cprt, if_true, if_false, Bool.false_eq_true, go_sem, Nat.reduceDiv, Nat.reduceMod, ↓reduceIte, Nat.reduceEqDiff, Nat.reduceBEq, Nat.reduceSub, Nat.reduceLT, Nat.reduceAdd, Nat.reduceLeDiff, reduceCtorEq, Int.reduceEq, Int.reduceNe, Int.reduceLT, Int.reduceLE, Int.reduceToNat]
    | true =>
      cases h2 : decide (wordL k = []) with
      | true =>
        rw [bad (by unfold rightT; simp only [h1, h2]; rfl)]
        simp only [k_cprt_2, r_cprt, wordS, h2, if_true, if_false, go_sem, Nat.reduceDiv, Nat.reduceMod, ↓reduceIte, Nat.reduceEqDiff, Nat.reduceBEq, Nat.reduceSub, Nat.reduceLT, Nat.reduceAdd, Nat.reduceLeDiff, reduceCtorEq, Int.reduceEq, Int.reduceNe, Int.reduceLT, Int.reduceLE, Int.reduceToNat]
      | false =>
        cases h3 : decide (n = []) with
        | true =>
          rw [bad (by unfold rightT; simp only [h1, h2, h3]; rfl)]
          simp only [k_cprt_2, r_cprt, wordS, h2, h3, if_true, if_false, go_sem, Nat.reduceDiv, Nat.reduceMod, ↓reduceIte, Nat.reduceEqDiff, Nat.reduceBEq, Nat.reduceSub, Nat.reduceLT, Nat.reduceAdd, Nat.reduceLeDiff, reduceCtorEq, Int.reduceEq, Int.reduceNe, Int.reduceLT, Int.reduceLE, Int.reduceToNat]
        | false =>
          cases h4 : n.contains 10 with
          | true =>
            rw [bad (by unfold rightT; simp only [h1, h2, h3, h4]; rfl)]
            simp only [k_cprt_2, r_cprt, wordS, containsS, h2, h3, h4, if_true, if_false, go_sem, Nat.reduceDiv, Nat.reduceMod, ↓reduceIte, Nat.reduceEqDiff, Nat.reduceBEq, Nat.reduceSub, Nat.reduceLT, Nat.reduceAdd, Nat.reduceLeDiff, reduceCtorEq, Int.reduceEq, Int.reduceNe, Int.reduceLT, Int.reduceLE, Int.reduceToNat]
            exact z2
          | false =>
            have ht : rightT ⟨o, k, n, ⟨wn, wm, wt, wz⟩, m⟩ = true := by unfold rightT; simp only [h1, h2, h3, h4]; rfl
            unfold prtR at hs
            rw [if_pos ht] at hs
            injection hs with hs; subst hs
            have hl := hl h1
            simp only [k_cprt_2, wordS, containsS, h2, h3, h4, if_true, if_false, go_sem, Nat.reduceDiv, Nat.reduceMod, ↓reduceIte, Nat.reduceEqDiff, Nat.reduceBEq, Nat.reduceSub, Nat.reduceLT, Nat.reduceAdd, Nat.reduceLeDiff, reduceCtorEq, Int.reduceEq, Int.reduceNe, Int.reduceLT, Int.reduceLE, Int.reduceToNat]
            refine ⟨z2, ?_⟩
            simp only [k_cprt_3, r_cprt, wordS, hexS, unV_U, if_true, bodyT, ha, tagL, go_sem, Nat.reduceDiv, Nat.reduceMod, ↓reduceIte, Nat.reduceEqDiff, Nat.reduceBEq, Nat.reduceSub, Nat.reduceLT, Nat.reduceAdd, Nat.reduceLeDiff, reduceCtorEq, Int.reduceEq, Int.reduceNe, Int.reduceLT, Int.reduceLE, Int.reduceToNat]
            simp only [List.length_append, List.length_cons, List.length_nil]
            repeat' apply And.intro
            all_goals first | omega | rfl | (first | omega | (simp only [lenOk, bytesOk, inI, IntKind.bits, List.length_append, Bs_len, List.length_cons, List.length_nil, List.length_map, List.length_take, List.length_drop, List.length_replicate]; omega)) | (simp; done) | skip
  · cases hs
/-! ### Lines that are taken -/
def lineG (s w : List UInt8) : Option (List UInt8 × List UInt8) := if (cut s [10]).2.2 = true ∧ hasPrefix (cut s [10]).1 w = true then some ((cut s [10]).1.drop w.length, (cut s [10]).2.1) else none
def lineR (T : TypeId) (s : List UInt8) (b : Bool) (pr : Prop) : Option (List UInt8 × List UInt8) → Option Ret
  | some (x, r) => some ⟨.tup [.str x, .int .i64 0], [.cells T [(1, .str r), (1, .bool b)]], pr⟩
  | none => some ⟨.tup [.str [], .int .i64 (-1)], [.cells T [(1, .str s), (1, .bool b)]], pr⟩
def lineS : Spec := fun xs hp => match xs, hp with
  | [.ref 0 0 0, .sl 1 [.str w]], [.cells T [(1, .str s), (1, .bool b)]] => lineR T s b (s.length ≤ 1000000000) (lineG s w)
  | _, _ => none
theorem lineG_len {s w x r : List UInt8} (h : lineG s w = some (x, r)) : x.length ≤ s.length ∧ r.length < s.length := by
  unfold lineG at h
  split at h
  · rename_i hc
    injection h with h; injection h with h1 h2; subst h1 h2
    have := congrArg List.length (cut_t hc.1)
    simp only [List.length_append, List.length_cons, List.length_nil] at this
    rw [List.length_drop]; omega
  · cases h
set_option maxHeartbeats 1000000 in
theorem line_ok : FnOk Tryz.prog 74 lineS := by
  refine fn_slim2 Tryz.func74 s_cline (Φ := phiL [(44, [], cutS), (50, [], hasPreS)]) (phi_cons cut_ok (by kernel_rfl) (phi_cons hasPre_ok (by kernel_rfl) phi_nil)) ?_
  intro xs hp r hs hp'
  unfold lineS at hs
  split at hs
  · rename_i w T s b
    have hpre : s.length ≤ 1000000000 := by
      unfold lineR at hs
      split at hs <;> (injection hs with hs; subst hs; exact hp')
    refine ⟨len_le (by kernel_rfl), ?_⟩
    have hA1 := cutl1 s [10]
    simp only [c_cline, cutS, go_sem, Nat.reduceDiv, Nat.reduceMod, ↓reduceIte, Nat.reduceEqDiff, Nat.reduceBEq, Nat.reduceSub, Nat.reduceLT, Nat.reduceAdd, Nat.reduceLeDiff, reduceCtorEq, Int.reduceEq, Int.reduceNe, Int.reduceLT, Int.reduceLE, Int.reduceToNat]
    refine ⟨by omega, ?_⟩
    unfold lineG at hs
    generalize cut s [10] = A at *
    refine loop2P [] [0, 6, 7, 8, 20, 21, 22] [0] (fun i : Nat => ⟨[(0, .ref 0 0 0), (6, .str A.1), (7, .str A.2.1), (8, .bool A.2.2), (20, .sl 1 [.str w]), (21, .int .i64 1), (22, .int .i64 (i : Int))], [.cells T [(1, .str s), (1, .bool b)]]⟩) (fun i => i = 0 ∨ (i = 1 ∧ ¬ (A.2.2 = true ∧ hasPrefix A.1 w = true))) (fun i => 1 - i) 0 rfl (.inl rfl) ⟨rfl, rfl⟩ (fun i hi R hR => ?_)
    rcases hi with rfl | ⟨rfl, hi⟩
    · have go : ¬ (A.2.2 = true ∧ hasPrefix A.1 w = true) → ∀ s', kp [0, 6, 7, 8, 20, 21, 22] [0].length (toS s') = some ⟨[(0, .ref 0 0 0), (6, .str A.1), (7, .str A.2.1), (8, .bool A.2.2), (20, .sl 1 [.str w]), (21, .int .i64 1), (22, .int .i64 ((1 : Nat) : Int))], [.cells T [(1, .str s), (1, .bool b)]]⟩ → R s' := fun hn s' h => hR s' 1 (.inr ⟨rfl, hn⟩) (by decide) h
      have c1 : decide (((0 : Nat) : Int) < 1) = true := by decide
      cases h1 : A.2.2 with
      | false =>
        rw [h1] at go
        simp only [b_cline_0, t_cline_0, r_cline, hasPreS, h1, c1, Int.toNat_natCast, go_sem, Nat.reduceDiv, Nat.reduceMod, ↓reduceIte, Nat.reduceEqDiff, Nat.reduceBEq, Nat.reduceSub, Nat.reduceLT, Nat.reduceAdd, Nat.reduceLeDiff, reduceCtorEq, Int.reduceEq, Int.reduceNe, Int.reduceLT, Int.reduceLE, Int.reduceToNat]
        exact ⟨⟨by omega, by omega⟩, go (by simp) _ rfl⟩
      | true =>
        cases h2 : hasPrefix A.1 w with
        | false =>
          rw [h1, h2] at go
          simp only [b_cline_0, t_cline_0, r_cline, hasPreS, h1, h2, c1, Int.toNat_natCast, go_sem, Nat.reduceDiv, Nat.reduceMod, ↓reduceIte, Nat.reduceEqDiff, Nat.reduceBEq, Nat.reduceSub, Nat.reduceLT, Nat.reduceAdd, Nat.reduceLeDiff, reduceCtorEq, Int.reduceEq, Int.reduceNe, Int.reduceLT, Int.reduceLE, Int.reduceToNat]
          exact ⟨⟨by omega, by omega⟩, go (by simp) _ rfl⟩
        | true =>
          rw [if_pos ⟨h1, h2⟩] at hs
          injection hs with hs; subst hs
          simp only [b_cline_0, t_cline_0, r_cline, hasPreS, h1, h2, c1, Int.toNat_natCast, go_sem, Nat.reduceDiv, Nat.reduceMod, ↓reduceIte, Nat.reduceEqDiff, Nat.reduceBEq, Nat.reduceSub, Nat.reduceLT, Nat.reduceAdd, Nat.reduceLeDiff, reduceCtorEq, Int.reduceEq, Int.reduceNe, Int.reduceLT, Int.reduceLE, Int.reduceToNat]
          have hwl : w.length ≤ A.1.length := by
            have h3 : w.isPrefixOf A.1 = true := h2
            rw [List.isPrefixOf_iff_prefix] at h3
            exact h3.length_le
          exact ⟨⟨by omega, by omega, by omega⟩, by rw [List.take_length]⟩
    · have c1 : decide (((1 : Nat) : Int) < 1) = false := by decide
      rw [if_neg hi] at hs
      injection hs with hs; subst hs
      simp only [b_cline_0, t_cline_0, r_cline, c1, go_sem, Nat.reduceDiv, Nat.reduceMod, ↓reduceIte, Nat.reduceEqDiff, Nat.reduceBEq, Nat.reduceSub, Nat.reduceLT, Nat.reduceAdd, Nat.reduceLeDiff, reduceCtorEq, Int.reduceEq, Int.reduceNe, Int.reduceLT, Int.reduceLE, Int.reduceToNat]
  · cases hs
end Go.Proofs.YtlkaaoekbmegkaaGreatDoor
/- The document's sums, on abstract values: its inner functions. -/
namespace Go.Proofs.YtlkaaoekbmegkaaGreatDoor
set_option linter.all false
open Go.RowKit
/-! tramway/tramwayref02.digit -/
def c_digit : ACode := (.seq (.reg none [⟨(some 2), (.mv (.c (.int .u8 0))), none⟩]) (.seq (.seq (.reg none [⟨(some 3), (.mv (.t 0)), none⟩, ⟨(some 4), (.bin .lss (.t 3) (.c (.int .i64 10))), none⟩]) (.cond (.t 4) (.seq (.reg none [⟨(some 5), (.mv (.t 0)), none⟩, ⟨(some 6), (.bin .add (.c (.int .i64 48)) (.t 5)), none⟩, ⟨(some 7), (.toInt .u8 (.t 6)), none⟩, ⟨(some 2), (.mv (.t 7)), none⟩]) .ret) .skip)) (.seq (.reg none [⟨(some 8), (.mv (.t 0)), none⟩, ⟨(some 9), (.bin .add (.c (.int .i64 87)) (.t 8)), none⟩, ⟨(some 10), (.toInt .u8 (.t 9)), none⟩, ⟨(some 2), (.mv (.t 10)), none⟩]) .ret)))
def r_digit : List ARes := [(.t 2)]
theorem s_digit : slimF Tryz.prog Tryz.f66 = some (c_digit, r_digit) := by kernel_rfl
def digN (n : Int) : Int := if n < 10 then 48 + n else 87 + n
def digitS : Spec := fun xs hp => match xs, hp with
  | [.int .i64 n], [] => some ⟨.int .u8 (digN n), [], 0 ≤ n ∧ n < 16⟩
  | _, _ => none
theorem digit_ok : FnOk Tryz.prog 66 digitS := by
  refine fn_slim Tryz.func66 s_digit (Φ := phiL []) phi_nil ?_
  intro xs hp r hs hp'
  unfold digitS at hs
  split at hs
  · injection hs with hs; subst hs
    rename_i n
    refine ⟨len_le (by kernel_rfl), ?_⟩
    obtain ⟨p1, p2⟩ := hp'
    simp only [c_digit, r_digit, awp_scope, noG_n, noG_r, noG_x, awp_skip, awp_reg, awp_draw, awp_seq, awp_cond, awp_block, awp_loop, awp_exit, awp_ret, arun_nil, arun_op, arun_gt, arun_gf, arunD_nil, arunD_op, arunD_gt, arunD_gf, aq_some, isB_t, isB_u, isB_f, isB_g, isB_p, isU_t, isU_b, ifB_t, ifB_f, thenQ_n, thenQ_x, thenQ_r, inQ_n, inQ_r, inQ_x, retQ_n, retQ_r, exD, AOp.isH, keepN, preB, avalP, pureR, astep, stV, stN, stE, stC, aval, anew, aElems, frzS, frzH, aeff, slots, aret, ares, aress, AV.isTup, eqFs, aEqS, ofC_i, ofC_b, ofC_s, ofC_U, getD_mapU, getD_Bs, Bs_len, Int.toNat_natCast, opd, pt, tk, subp, rdP, Rt.size, Rt.isAgg, Rt.zv, aBin, aInt, aStr, arI, aUn, aToInt, aToStr, aIdxS, zv, aIdxA, aIa, aIaA, aFa, aLd, aFld, pparts, aLo, aHi, cutL, aSlS, aSl, aExt, aNck, aNilc, AV.isStr, aLen, AV.one, AV.multi, pureB, szOk, psz, drp, spl, aEqB, aEqA, aMm, aMkfn, aMkif, aBuild, toV, aBuildA, wrP, unparts, view, nilS, St.ev, lk, St.put, St.pin, St.pinV, acall0, acall1, acall2, acall3, bor, bor0, bor1, phiL_nil, phiL_at, tau, lentO, okIds, flatC, flatB, flatOs, flatO, flatPs, place, setAll_nil, setAll_cons, nodupB, renObj, closeIds, addNew, idsOf, idsObj, posOf, lenOk_0, lenOk_1, lenOk_2, lenOk_3, lenOk_4, lenOk_8, ↓reduceIte, Option.isSome_none, Option.isSome_some, Bool.or_true, Bool.true_or,  Nat.reduceEqDiff, Nat.reduceBEq, Nat.reduceSub, Nat.reduceLT, beq_self_eq_true, List.map, List.set, List.map_cons, List.map_nil, List.flatMap_cons, List.flatMap_nil, List.flatten_cons, List.flatten_nil, true_and, and_true, List.length_cons, List.length_nil, Nat.reduceAdd, Nat.reduceLeDiff, List.nil_append, List.cons_append, List.append_nil, Option.map, mapO, ren, kp, kpI, ent, nilG, Option.bind, List.range, List.range.loop, List.getElem?_cons_zero, List.getElem?_cons_succ, List.getElem?_nil, List.getD_cons_zero, List.getD_cons_succ, List.drop_zero, List.drop_succ_cons, List.drop_nil, List.take_zero, List.take_succ_cons, List.all_cons, List.all_nil, List.isEmpty_nil, List.isEmpty_cons, Bool.and_true, Bool.true_and, Bool.not_true, Bool.not_false, List.contains_nil, reduceCtorEq, List.contains_cons, Bool.or_false, Bool.false_or, eq_self, forall_const, false_implies, Bool.false_eq_true, Nat.le_refl, List.length_map, List.length_set, List.length_replicate, and_self, implies_true]
    simp only [inI, digN, Bool.false_eq_true, renObj, finP, finI, closeIds, addNew, idsOf, List.flatMap_nil, List.flatMap_cons, List.append_nil, List.nil_append, List.take_zero, nodupB, posOf, idsObj, List.getD_cons_zero, List.getD_cons_succ, List.range, List.range.loop, ren, lentO, mapO, Option.map, ↓reduceIte, Nat.reduceEqDiff, true_and, and_true, List.getElem?_cons_zero, List.getElem?_cons_succ, Nat.reduceAdd, List.contains_nil, Bool.not_false, Bool.and_true, List.map_nil, List.map_cons, List.take_succ_cons]
    refine ⟨fun h => ?_, fun h => ?_⟩
    · have := of_decide_eq_true h
      rw [if_pos this]
      exact ⟨by omega, congrArg some (congrArg (AV.int .u8) (wrap8 (by omega) (by omega)))⟩
    · have := of_decide_eq_false h
      rw [if_neg this]
      exact ⟨by omega, congrArg some (congrArg (AV.int .u8) (wrap8 (by omega) (by omega)))⟩
  · cases hs
/-! tramway/tramwayref02.Hex -/
def b_rhex_0 : ACode := (.seq (.seq (.reg none [⟨(some 5), (.mv (.t 4)), none⟩, ⟨(some 6), (.bin .lss (.t 5) (.c (.int .i64 20))), none⟩]) (.cond (.t 6) .skip (.exit 0))) (.seq (.block 1 (.reg (some [(0, false), (1, false), (2, false), (3, false), (4, false), (5, false), (6, false), (6, false), (6, false), (6, false), (6, false), (6, false), (12, false), (13, false), (14, true), (15, true)]) [⟨(some 9), (.mv (.t 3)), none⟩, ⟨(some 10), (.mv (.t 4)), none⟩, ⟨(some 11), (.iaA 20 (.t 1) (.t 10)), none⟩, ⟨(some 12), (.ld (.one (.int .u8 0)) (.t 11)), none⟩, ⟨(some 13), (.toInt .i64 (.t 12)), none⟩, ⟨(some 14), (.bin .quo (.t 13) (.c (.int .i64 16))), none⟩, ⟨(some 15), (.call 66 [(.t 14)]), none⟩, ⟨(some 16), (.mv (.t 4)), none⟩, ⟨(some 17), (.iaA 20 (.t 1) (.t 16)), none⟩, ⟨(some 18), (.ld (.one (.int .u8 0)) (.t 17)), none⟩, ⟨(some 19), (.toInt .i64 (.t 18)), none⟩, ⟨(some 20), (.bin .rem (.t 19) (.c (.int .i64 16))), none⟩, ⟨(some 21), (.call 66 [(.t 20)]), none⟩, ⟨(some 22), (.buildSl 5 1 [(.t 15), (.t 21)]), none⟩, ⟨(some 23), (.app 5 1 1 (.t 9) (.t 22)), none⟩, ⟨(some 3), (.mv (.t 23)), none⟩])) (.reg none [⟨(some 7), (.mv (.t 4)), none⟩, ⟨(some 8), (.bin .add (.t 7) (.c (.int .i64 1))), none⟩, ⟨(some 4), (.mv (.t 8)), none⟩])))
def c_rhex : ACode := (.seq (.reg none [⟨(some 1), (.box 22 20 (.t 0)), none⟩, ⟨(some 2), (.mv (.c (.str []))), none⟩]) (.seq (.reg none [⟨(some 3), (.mv (.c (.con (.slice none 0 0)))), none⟩]) (.seq (.seq (.reg none [⟨(some 4), (.mv (.c (.int .i64 0))), none⟩]) (.block 0 (.loop b_rhex_0))) (.seq (.reg none [⟨(some 24), (.mv (.t 3)), none⟩, ⟨(some 25), (.toStr (.t 24)), none⟩, ⟨(some 2), (.mv (.t 25)), none⟩]) .ret))))
def r_rhex : List ARes := [(.t 2)]
theorem s_rhex : slimF Tryz.prog Tryz.f38 = some (c_rhex, r_rhex) := by kernel_rfl
def hexI (l : List UInt8) : List UInt8 := l.flatMap fun u => [UInt8.ofNat (digN (u.toNat / 16)).toNat, UInt8.ofNat (digN (u.toNat % 16)).toNat]
theorem hexI_len (l : List UInt8) : (hexI l).length = 2 * l.length := by
  unfold hexI
  induction l with
  | nil => rfl
  | cons u l ih => rw [List.flatMap_cons, List.length_append, ih]; simp; omega
theorem hexI_append (l m : List UInt8) : hexI (l ++ m) = hexI l ++ hexI m := List.flatMap_append
theorem digN_le {n : Int} (h : 0 ≤ n) (h' : n < 16) : 0 ≤ digN n ∧ digN n < 256 := by unfold digN; split <;> omega
def rhexS : Spec := fun xs hp => match xs, hp with
  | [.blob cs], [] => some ⟨.str (hexI (unV cs)), [], cs = (unV cs).map U ∧ cs.length = 20⟩
  | _, _ => none
theorem rhex_ok : FnOk Tryz.prog 38 rhexS := by
  refine fn_slim Tryz.func38 s_rhex (Φ := phiL [(66, [], digitS)]) (phi_cons digit_ok (by kernel_rfl) phi_nil) ?_
  intro xs hp r hs hp'
  unfold rhexS at hs
  split at hs
  · injection hs with hs; subst hs
    rename_i cs
    refine ⟨len_le (by kernel_rfl), ?_⟩
    obtain ⟨p1, p2⟩ := hp'
    generalize hl : unV cs = l at *
    subst p1
    have hl : l.length = 20 := by simpa using p2
    simp only [c_rhex, r_rhex, awp_scope, noG_n, noG_r, noG_x, awp_skip, awp_reg, awp_draw, awp_seq, awp_cond, awp_block, awp_loop, awp_exit, awp_ret, arun_nil, arun_op, arun_gt, arun_gf, arunD_nil, arunD_op, arunD_gt, arunD_gf, aq_some, isB_t, isB_u, isB_f, isB_g, isB_p, isU_t, isU_b, ifB_t, ifB_f, thenQ_n, thenQ_x, thenQ_r, inQ_n, inQ_r, inQ_x, retQ_n, retQ_r, exD, AOp.isH, keepN, preB, avalP, pureR, astep, stV, stN, stE, stC, aval, anew, aElems, frzS, frzH, aeff, slots, aret, ares, aress, AV.isTup, eqFs, aEqS, ofC_i, ofC_b, ofC_s, ofC_U, getD_mapU, getD_Bs, Bs_len, Int.toNat_natCast, opd, pt, tk, subp, rdP, Rt.size, Rt.isAgg, Rt.zv, aBin, aInt, aStr, arI, aUn, aToInt, aToStr, aIdxS, zv, aIdxA, aIa, aIaA, aFa, aLd, aFld, pparts, aLo, aHi, cutL, aSlS, aSl, aExt, aNck, aNilc, AV.isStr, aLen, AV.one, AV.multi, pureB, szOk, psz, drp, spl, aEqB, aEqA, aMm, aMkfn, aMkif, aBuild, toV, aBuildA, wrP, unparts, view, nilS, St.ev, lk, St.put, St.pin, St.pinV, acall0, acall1, acall2, acall3, bor, bor0, bor1, phiL_nil, phiL_at, tau, lentO, okIds, flatC, flatB, flatOs, flatO, flatPs, place, setAll_nil, setAll_cons, nodupB, renObj, closeIds, addNew, idsOf, idsObj, posOf, lenOk_0, lenOk_1, lenOk_2, lenOk_3, lenOk_4, lenOk_8, ↓reduceIte, Option.isSome_none, Option.isSome_some, Bool.or_true, Bool.true_or,  Nat.reduceEqDiff, Nat.reduceBEq, Nat.reduceSub, Nat.reduceLT, beq_self_eq_true, List.map, List.set, List.map_cons, List.map_nil, List.flatMap_cons, List.flatMap_nil, List.flatten_cons, List.flatten_nil, true_and, and_true, List.length_cons, List.length_nil, Nat.reduceAdd, Nat.reduceLeDiff, List.nil_append, List.cons_append, List.append_nil, Option.map, mapO, ren, kp, kpI, ent, nilG, Option.bind, List.range, List.range.loop, List.getElem?_cons_zero, List.getElem?_cons_succ, List.getElem?_nil, List.getD_cons_zero, List.getD_cons_succ, List.drop_zero, List.drop_succ_cons, List.drop_nil, List.take_zero, List.take_succ_cons, List.all_cons, List.all_nil, List.isEmpty_nil, List.isEmpty_cons, Bool.and_true, Bool.true_and, Bool.not_true, Bool.not_false, List.contains_nil, reduceCtorEq, List.contains_cons, Bool.or_false, Bool.false_or, eq_self, forall_const, false_implies, Bool.false_eq_true, Nat.le_refl, List.length_map, List.length_set, List.length_replicate, and_self, implies_true]
    refine ⟨hl, ?_⟩
    refine loop_at [(3, 5, 1)] [1, 3, 4] [0, 1] (fun k : Nat => ⟨[(1, .ref 0 0 0), (3, .own 1 k), (4, .int .i64 k)], [.cells 22 [(20, .blob (l.map U))], .row 5 1 k (Bs (hexI (l.take k)))]⟩) (fun k => k ≤ 20) (fun k => 20 - k) 0 rfl (by omega) ⟨rfl, rfl⟩ (fun k hk => ?_)
    simp only [b_rhex_0, digitS, awp_scope, noG_n, noG_r, noG_x, awp_skip, awp_reg, awp_draw, awp_seq, awp_cond, awp_block, awp_loop, awp_exit, awp_ret, arun_nil, arun_op, arun_gt, arun_gf, arunD_nil, arunD_op, arunD_gt, arunD_gf, aq_some, isB_t, isB_u, isB_f, isB_g, isB_p, isU_t, isU_b, ifB_t, ifB_f, thenQ_n, thenQ_x, thenQ_r, inQ_n, inQ_r, inQ_x, retQ_n, retQ_r, exD, AOp.isH, keepN, preB, avalP, pureR, astep, stV, stN, stE, stC, aval, anew, aElems, frzS, frzH, aeff, slots, aret, ares, aress, AV.isTup, eqFs, aEqS, ofC_i, ofC_b, ofC_s, ofC_U, getD_mapU, getD_Bs, Bs_len, Int.toNat_natCast, opd, pt, tk, subp, rdP, Rt.size, Rt.isAgg, Rt.zv, aBin, aInt, aStr, arI, aUn, aToInt, aToStr, aIdxS, zv, aIdxA, aIa, aIaA, aFa, aLd, aFld, pparts, aLo, aHi, cutL, aSlS, aSl, aExt, aNck, aNilc, AV.isStr, aLen, AV.one, AV.multi, pureB, szOk, psz, drp, spl, aEqB, aEqA, aMm, aMkfn, aMkif, aBuild, toV, aBuildA, wrP, unparts, view, nilS, St.ev, lk, St.put, St.pin, St.pinV, acall0, acall1, acall2, acall3, bor, bor0, bor1, phiL_nil, phiL_at, tau, lentO, okIds, flatC, flatB, flatOs, flatO, flatPs, place, setAll_nil, setAll_cons, nodupB, renObj, closeIds, addNew, idsOf, idsObj, posOf, lenOk_0, lenOk_1, lenOk_2, lenOk_3, lenOk_4, lenOk_8, ↓reduceIte, Option.isSome_none, Option.isSome_some, Bool.or_true, Bool.true_or,  Nat.reduceEqDiff, Nat.reduceBEq, Nat.reduceSub, Nat.reduceLT, beq_self_eq_true, List.map, List.set, List.map_cons, List.map_nil, List.flatMap_cons, List.flatMap_nil, List.flatten_cons, List.flatten_nil, true_and, and_true, List.length_cons, List.length_nil, Nat.reduceAdd, Nat.reduceLeDiff, List.nil_append, List.cons_append, List.append_nil, Option.map, mapO, ren, kp, kpI, ent, nilG, Option.bind, List.range, List.range.loop, List.getElem?_cons_zero, List.getElem?_cons_succ, List.getElem?_nil, List.getD_cons_zero, List.getD_cons_succ, List.drop_zero, List.drop_succ_cons, List.drop_nil, List.take_zero, List.take_succ_cons, List.all_cons, List.all_nil, List.isEmpty_nil, List.isEmpty_cons, Bool.and_true, Bool.true_and, Bool.not_true, Bool.not_false, List.contains_nil, reduceCtorEq, List.contains_cons, Bool.or_false, Bool.false_or, eq_self, forall_const, false_implies, Bool.false_eq_true, Nat.le_refl, List.length_map, List.length_set, List.length_replicate, and_self, implies_true]
    refine ⟨fun h => ?_, fun h => ?_⟩
    · have hk := of_decide_eq_true h
      have hu := (l.getD k 0).toNat_lt
      have hk' : k < 20 := by omega
      rw [Int.tdiv_eq_ediv_of_nonneg (by omega), Int.tmod_eq_emod_of_nonneg (by omega)]
      have hlen : (hexI (l.take k)).length ≤ 40 := by rw [hexI_len, List.length_take]; omega
      simp only [inI, lenOk, bytesOk, IntKind.bits, Bs, List.length_append, List.length_map, List.length_cons, List.length_nil]
      refine ⟨by omega, by omega, by omega, ⟨by omega, by omega⟩, by omega, by omega, by omega, by omega, by omega, by omega, by omega, ⟨by omega, by omega⟩, k + 1, by omega, by omega, ?_⟩
      rw [take_succ' (by omega), hexI_append, List.map_append]
      simp only [hexI, List.flatMap_cons, List.flatMap_nil, List.append_nil, List.map_cons, List.map_nil]
      rw [ub_int (digN_le (by omega) (by omega)).1 (digN_le (by omega) (by omega)).2, ub_int (digN_le (by omega) (by omega)).1 (digN_le (by omega) (by omega)).2]
      rfl
    · have hk := of_decide_eq_false h
      rw [List.take_of_length_le (by omega)]
      simp only [Bool.false_eq_true, renObj, finP, finI, closeIds, addNew, idsOf, List.flatMap_nil, List.flatMap_cons, List.append_nil, List.nil_append, List.take_zero, nodupB, posOf, idsObj, List.getD_cons_zero, List.getD_cons_succ, List.range, List.range.loop, ren, lentO, mapO, Option.map, ↓reduceIte, Nat.reduceEqDiff, true_and, and_true, List.getElem?_cons_zero, List.getElem?_cons_succ, Nat.reduceAdd, List.contains_nil, Bool.not_false, Bool.and_true, List.map_nil, List.map_cons, List.take_succ_cons, unB_Bs]
  · cases hs
end Go.Proofs.YtlkaaoekbmegkaaGreatDoor
/- The two texts of a sum are one, on plain lists. -/
namespace Go.Proofs.YtlkaaoekbmegkaaGreatDoor
set_option linter.all false
open Go.RowKit
theorem digN_digs : ∀ k : Fin 16, digN (k.1 : Int) = ((digs.getD k.1 0).toNat : Int) := by decide
theorem hexI_eq : ∀ l : List UInt8, hexI l = hexL l
  | [] => rfl
  | u :: l => by
    have hu := u.toNat_lt
    have h1 := digN_digs ⟨u.toNat / 16, by omega⟩
    have h2 := digN_digs ⟨u.toNat % 16, by omega⟩
    simp only at h1 h2
    have ih := hexI_eq l
    unfold hexI at ih ⊢
    rw [List.flatMap_cons, ih, hexL, show (u.toNat : Int) / 16 = ((u.toNat / 16 : Nat) : Int) by omega, show (u.toNat : Int) % 16 = ((u.toNat % 16 : Nat) : Int) by omega, h1, h2]
    simp only [Int.toNat_natCast, UInt8.ofNat_toNat, List.cons_append, List.nil_append]
end Go.Proofs.YtlkaaoekbmegkaaGreatDoor
/- The document's Parse of ids: its text. -/
namespace Go.Proofs.YtlkaaoekbmegkaaGreatDoor
set_option linter.all false
open Go.RowKit
/-! tramway/tramwayref02.Parse -/
def b_rparse_0 : ACode := (.seq (.seq (.reg none [⟨(some 16), (.mv (.t 7)), none⟩, ⟨(some 17), (.bin .lss (.t 16) (.c (.int .i64 256))), none⟩]) (.cond (.t 17) .skip (.exit 2))) (.seq (.block 3 (.seq (.reg (some [(0, false), (1, false), (2, false), (3, false), (4, false), (5, false), (6, false), (7, true), (8, true), (9, false), (10, false), (11, false), (12, false), (13, false), (14, false), (15, false), (16, false), (17, true), (18, true)]) [⟨(some 20), (.mv (.t 0)), none⟩, ⟨(some 21), (.mv (.t 5)), none⟩, ⟨(some 22), (.bin .mul (.c (.int .i64 2)) (.t 21)), none⟩, ⟨(some 23), (.idxS (.t 20) (.t 22)), none⟩, ⟨(some 24), (.mv (.t 7)), none⟩, ⟨(some 25), (.bin .quo (.t 24) (.c (.int .i64 16))), none⟩, ⟨(some 26), (.call 66 [(.t 25)]), none⟩, ⟨(some 27), (.bin .eql (.t 23) (.t 26)), none⟩, ⟨(some 28), (.mv (.t 27)), none⟩, ⟨(some 29), (.mv (.t 0)), (some (28, true))⟩, ⟨(some 30), (.mv (.t 5)), (some (28, true))⟩, ⟨(some 31), (.bin .mul (.c (.int .i64 2)) (.t 30)), (some (28, true))⟩, ⟨(some 32), (.bin .add (.t 31) (.c (.int .i64 1))), (some (28, true))⟩, ⟨(some 33), (.idxS (.t 29) (.t 32)), (some (28, true))⟩, ⟨(some 34), (.mv (.t 7)), (some (28, true))⟩, ⟨(some 35), (.bin .rem (.t 34) (.c (.int .i64 16))), (some (28, true))⟩, ⟨(some 36), (.call 66 [(.t 35)]), (some (28, true))⟩, ⟨(some 37), (.bin .eql (.t 33) (.t 36)), (some (28, true))⟩, ⟨(some 38), (.pick (.t 28) (.t 37) (.c (.bool false))), none⟩]) (.cond (.t 38) (.seq (.reg none [⟨(some 39), (.mv (.t 5)), none⟩, ⟨(some 40), (.mv (.t 7)), none⟩, ⟨(some 41), (.toInt .u8 (.t 40)), none⟩, ⟨(some 42), (.iaA 20 (.t 4) (.t 39)), none⟩, ⟨none, (.st (.one (.int .u8 0)) (.t 42) (.t 41)), none⟩]) (.reg none [⟨(some 6), (.mv (.c (.bool true))), none⟩])) .skip))) (.reg none [⟨(some 18), (.mv (.t 7)), none⟩, ⟨(some 19), (.bin .add (.t 18) (.c (.int .i64 1))), none⟩, ⟨(some 7), (.mv (.t 19)), none⟩])))
def b_rparse_1 : ACode := (.seq (.seq (.reg none [⟨(some 12), (.mv (.t 5)), none⟩, ⟨(some 13), (.bin .lss (.t 12) (.c (.int .i64 20))), none⟩]) (.cond (.t 13) .skip (.exit 0))) (.seq (.block 1 (.seq (.reg none [⟨(some 6), (.mv (.c (.bool false))), none⟩]) (.seq (.seq (.reg none [⟨(some 7), (.mv (.c (.int .i64 0))), none⟩]) (.block 2 (.loop b_rparse_0))) (.seq (.reg none [⟨(some 43), (.mv (.t 6)), none⟩, ⟨(some 44), (.un .not (.t 43)), none⟩]) (.cond (.t 44) (.seq (.reg none [⟨(some 45), (.buildA (List.replicate 20 (.int .u8 0)) []), none⟩, ⟨none, (.st (.arr 20) (.t 2) (.t 45)), none⟩, ⟨(some 3), (.mv (.c (.bool false))), none⟩]) .ret) .skip))))) (.reg none [⟨(some 14), (.mv (.t 5)), none⟩, ⟨(some 15), (.bin .add (.t 14) (.c (.int .i64 1))), none⟩, ⟨(some 5), (.mv (.t 15)), none⟩])))
def c_rparse : ACode := (.seq (.reg none [⟨(some 2), (.new 22 [(20, (.blob (List.replicate 20 (.int .u8 0))))]), none⟩, ⟨(some 3), (.mv (.c (.bool false))), none⟩]) (.seq (.reg none [⟨(some 4), (.new 22 [(20, (.blob (List.replicate 20 (.int .u8 0))))]), none⟩]) (.seq (.seq (.reg none [⟨(some 8), (.mv (.t 0)), none⟩, ⟨(some 9), (.len none true (.t 8)), none⟩, ⟨(some 10), (.bin .neq (.t 9) (.c (.int .i64 40))), none⟩]) (.cond (.t 10) (.seq (.reg none [⟨(some 11), (.ld (.arr 20) (.t 4)), none⟩, ⟨none, (.st (.arr 20) (.t 2) (.t 11)), none⟩, ⟨(some 3), (.mv (.c (.bool false))), none⟩]) .ret) .skip)) (.seq (.seq (.reg none [⟨(some 5), (.mv (.c (.int .i64 0))), none⟩]) (.block 0 (.loop b_rparse_1))) (.seq (.reg none [⟨(some 46), (.ld (.arr 20) (.t 4)), none⟩, ⟨none, (.st (.arr 20) (.t 2) (.t 46)), none⟩, ⟨(some 3), (.mv (.c (.bool true))), none⟩]) .ret)))))
def r_rparse : List ARes := [(.c 2 (.arr 20)), (.t 3)]
theorem s_rparse : slimF Tryz.prog Tryz.f55 = some (c_rparse, r_rparse) := by kernel_rfl

end Go.Proofs.YtlkaaoekbmegkaaGreatDoor
/- There and back. -/
namespace Go.Proofs.YtlkaaoekbmegkaaGreatDoor
set_option linter.all false

theorem dv_digF : ∀ k : Fin 16, Lib.indexByte digs (digs.getD k.1 0) = (k.1 : Int) := by decide
theorem dv_dig (k : Nat) (h : k < 16) : dv (digs.getD k 0) = (k : Int) := by unfold dv; exact dv_digF ⟨k, h⟩
theorem dv_upF : ∀ k : Fin 6, Lib.indexByte digs (UInt8.ofNat (65 + k.1)) = -1 := by decide
theorem dv_up (c : UInt8) (h1 : 65 ≤ c.toNat) (h2 : c.toNat ≤ 70) : dv c = -1 := by
  unfold dv
  have h := dv_upF ⟨c.toNat - 65, by omega⟩
  have e : 65 + (c.toNat - 65) = c.toNat := by omega
  simp only [e] at h
  rwa [UInt8.ofNat_toNat] at h
theorem dig_dv (c : UInt8) (h : 0 ≤ dv c) : digs.getD (dv c).toNat 0 = c := by
  obtain ⟨o, ho⟩ : ∃ o : Nat, dv c = o := ⟨(dv c).toNat, by omega⟩
  rw [ho]
  unfold dv at ho
  have := (Lib.indexByte_some ho).1
  simp only [Int.toNat_natCast, List.getD_eq_getElem?_getD, this, Option.getD_some]
theorem hexL_at : ∀ (l : List UInt8) (j : Nat), j < l.length → (hexL l).getD (2 * j) 0 = digs.getD ((l.getD j 0).toNat / 16) 0 ∧ (hexL l).getD (2 * j + 1) 0 = digs.getD ((l.getD j 0).toNat % 16) 0
  | [], j, h => absurd h (by simp)
  | b :: l, 0, _ => ⟨rfl, rfl⟩
  | b :: l, j + 1, h => by
    have ih := hexL_at l j (by simpa using h)
    rw [show 2 * (j + 1) = 2 * j + 1 + 1 by omega, hexL, List.getD_cons_succ, List.getD_cons_succ, List.getD_cons_succ, List.getD_cons_succ, List.getD_cons_succ]
    exact ih
theorem hexL_ok : ∀ (l : List UInt8), ∀ c ∈ hexL l, 0 ≤ dv c
  | [], c, h => by cases h
  | b :: l, c, h => by
    have := b.toNat_lt
    rw [hexL, List.mem_cons, List.mem_cons] at h
    rcases h with rfl | rfl | h
    · rw [dv_dig _ (by omega)]; omega
    · rw [dv_dig _ (by omega)]; omega
    · exact hexL_ok l c h
theorem parse_hexN (id : List UInt8) (j : Nat) (hj : j < 20) (h : id.length = 20) : outN (hexL id) 40 j = (id.getD j 0).toNat := by
  obtain ⟨h1, h2⟩ := hexL_at id j (by omega)
  have := (id.getD j 0).toNat_lt
  unfold outN
  rw [if_pos (by omega), h1, h2, dv_dig _ (by omega), dv_dig _ (by omega), Int.toNat_natCast, Int.toNat_natCast]
  omega
theorem parse_hex (id : List UInt8) (h : id.length = 20) : outL (hexL id) 40 = id := by
  apply List.ext_getElem?
  intro j
  unfold outL
  by_cases hj : j < 20
  · rw [List.getElem?_map, List.getElem?_range hj, Option.map_some, parse_hexN id j hj h, UInt8.ofNat_toNat, List.getD_eq_getElem?_getD, List.getElem?_eq_getElem (by omega)]
    rfl
  · rw [List.getElem?_eq_none (by simp; omega), List.getElem?_eq_none (by omega)]
theorem outL_length (s : List UInt8) (i : Nat) : (outL s i).length = 20 := by unfold outL; simp
theorem outL_at (s : List UInt8) (i j : Nat) (h : j < 20) : ((outL s i).getD j 0).toNat = outN s i j := by
  have := outN_lt s i j
  unfold outL
  rw [List.getD_eq_getElem?_getD, List.getElem?_map, List.getElem?_range h]
  simp
  omega
theorem hex_parse (s : List UInt8) (h : s.length = 40) (hv : ∀ c ∈ s, 0 ≤ dv c) : hexL (outL s 40) = s := by
  have hat : ∀ n, n < 40 → 0 ≤ dv (s.getD n 0) := fun n hn => hv _ (by
    rw [List.getD_eq_getElem?_getD, List.getElem?_eq_getElem (by omega)]; exact List.getElem_mem _)
  have key : ∀ n, n < 40 → (hexL (outL s 40)).getD n 0 = s.getD n 0 := by
    intro n hn
    obtain ⟨h1, h2⟩ := hexL_at (outL s 40) (n / 2) (by rw [outL_length]; omega)
    rw [outL_at s 40 (n / 2) (by omega)] at h1 h2
    have hd : outN s 40 (n / 2) = 16 * (dv (s.getD (2 * (n / 2)) 0)).toNat + (dv (s.getD (2 * (n / 2) + 1) 0)).toNat := by
      unfold outN; rw [if_pos (by omega)]
    have l1 := dv_lt (s.getD (2 * (n / 2)) 0)
    have l2 := dv_lt (s.getD (2 * (n / 2) + 1) 0)
    rcases (show n = 2 * (n / 2) ∨ n = 2 * (n / 2) + 1 by omega) with e | e
    · have e1 : outN s 40 (n / 2) / 16 = (dv (s.getD (2 * (n / 2)) 0)).toNat := by omega
      rw [e1, dig_dv _ (hat _ (by omega)), ← e] at h1
      exact h1
    · have e1 : outN s 40 (n / 2) % 16 = (dv (s.getD (2 * (n / 2) + 1) 0)).toNat := by omega
      rw [e1, dig_dv _ (hat _ (by omega)), ← e] at h2
      exact h2
  apply List.ext_getElem?
  intro n
  by_cases hn : n < 40
  · have := key n hn
    rw [List.getD_eq_getElem?_getD, List.getD_eq_getElem?_getD, List.getElem?_eq_getElem (by rw [hexL_length, outL_length]; omega), List.getElem?_eq_getElem (by omega)] at this
    rw [List.getElem?_eq_getElem (by rw [hexL_length, outL_length]; omega), List.getElem?_eq_getElem (by omega)]
    simpa using this
  · rw [List.getElem?_eq_none (by rw [hexL_length, outL_length]; omega), List.getElem?_eq_none (by omega)]
end Go.Proofs.YtlkaaoekbmegkaaGreatDoor
