import Derived.Test.YtakojeefilpibaaDoorVParse
import Derived.Lib.IndexBytes
import Derived.Lib.CountLaws
import Derived.Lib.SplitLaws
import Derived.Lib.Replace
import Derived.Lib.IndexMore
import Derived.Test.YtakojeefilpibaaDoorVFNm1
import Derived.Lib.MakeNoZero
import Derived.Laws.IdiomCopy
import Derived.Laws.EntriesVeiled
import Derived.Test.YtakojeefilpibaaDoorChecked
import Derived.Test.YtakojeefilpibaaDoorVAMS
import Derived.Test.YtakojeefilpibaaDoorVFSplit
namespace Go.Proofs.YtakojeefilpibaaDoor
set_option linter.all false
open Go.RowKit
open Go.Lib (index hasPrefix trimPrefix cut occAt indexAny replaceK replaceNum replaceAll)
theorem occAt_1 {s : List UInt8} {c : UInt8} {j : Nat} (h : occAt s [c] j = true) : s[j]? = some c := by
  unfold occAt at h
  cases hd : s.drop j with
  | nil => rw [hd] at h; cases h
  | cons x r =>
    rw [hd] at h
    have e : c = x := by simpa [List.isPrefixOf] using h
    have := congrArg (fun l => l[0]?) hd
    simpa [e] using this
theorem occAt_append (a p b : List UInt8) : occAt (a ++ (p ++ b)) p a.length = true := by
  unfold occAt
  rw [List.drop_left]
  simp [List.isPrefixOf_iff_prefix]
theorem index_app {a p b : List UInt8} (h : ∀ j, j < a.length → occAt (a ++ (p ++ b)) p j = false) : index (a ++ (p ++ b)) p = a.length :=
  Lib.index_first (by simp) (occAt_append a p b) h
theorem cut_app {a p b : List UInt8} (h : ∀ j, j < a.length → occAt (a ++ (p ++ b)) p j = false) : cut (a ++ (p ++ b)) p = (a, b, true) := by
  have e := index_app h
  have e2 : (index (a ++ (p ++ b)) p).toNat = a.length := by omega
  unfold cut
  rw [if_pos (by omega), e2, List.take_left, ← List.drop_drop, List.drop_left, List.drop_left]
theorem cut_1 {a b : List UInt8} {c : UInt8} (h : c ∉ a) : cut (a ++ c :: b) [c] = (a, b, true) := by
  refine cut_app (p := [c]) fun j hj => ?_
  rw [Bool.eq_false_iff]
  intro ho
  have := occAt_1 ho
  rw [List.getElem?_append_left hj] at this
  exact h (List.mem_of_getElem? this)
theorem cut_1n {s : List UInt8} {c : UInt8} (h : c ∉ s) : cut s [c] = (s, [], false) := by
  have e : index s [c] = -1 := by
    rcases Lib.index_spec s [c] with h1 | ⟨i, _, _, h3, _⟩
    · exact h1.1
    · exact absurd (List.mem_of_getElem? (occAt_1 h3)) h
  unfold cut
  rw [if_neg (by omega)]
theorem cut_t {s p : List UInt8} (h : (cut s p).2.2 = true) : s = (cut s p).1 ++ (p ++ (cut s p).2.1) := by
  unfold cut at h ⊢
  split at h
  · rename_i hi
    rw [if_pos hi]
    simp only
    rcases Lib.index_spec s p with h1 | ⟨i, h1, h2, h3, _⟩
    · omega
    · have e : (index s p).toNat = i := by omega
      rw [e]
      unfold occAt at h3
      rw [List.isPrefixOf_iff_prefix] at h3
      obtain ⟨r, hr⟩ := h3
      rw [← List.drop_drop, ← hr, List.drop_left, hr, List.take_append_drop]
  · cases h
theorem cut_f {s p : List UInt8} (h : (cut s p).2.2 = false) : (cut s p).1 = s ∧ (cut s p).2.1 = [] := by
  unfold cut at h ⊢
  split at h
  · cases h
  · rename_i hi
    rw [if_neg hi]
    exact ⟨rfl, rfl⟩
theorem cut_1mem {s : List UInt8} {c : UInt8} : c ∉ (cut s [c]).1 := by
  unfold cut
  split
  · rename_i hi
    simp only
    rcases Lib.index_spec s [c] with h1 | ⟨i, h1, h2, h3, h4⟩
    · omega
    · have e : (index s [c]).toNat = i := by omega
      rw [e]
      intro hm
      obtain ⟨j, hj, hg⟩ := List.getElem_of_mem hm
      rw [List.length_take] at hj
      have := h4 j (by omega)
      rw [Bool.eq_false_iff] at this
      apply this
      rw [List.getElem_take] at hg
      unfold occAt
      rw [List.drop_eq_getElem_cons (by omega), hg]
      simp [List.isPrefixOf]
  · rename_i hi
    simp only
    intro hm
    obtain ⟨j, hj, hg⟩ := List.getElem_of_mem hm
    rcases Lib.index_spec s [c] with h1 | ⟨i, h1, h2, h3, h4⟩
    · have := h1.2 j (by omega)
      rw [Bool.eq_false_iff] at this
      apply this
      unfold occAt
      rw [List.drop_eq_getElem_cons hj, hg]
      simp [List.isPrefixOf]
    · omega
theorem cut_1f {s : List UInt8} {c : UInt8} (h : (cut s [c]).2.2 = false) : c ∉ s := by
  have h1 := cut_1mem (s := s) (c := c)
  rwa [(cut_f h).1] at h1
theorem cut_1t {s : List UInt8} {c : UInt8} (h : c ∈ s) : (cut s [c]).2.2 = true := by
  cases hc : (cut s [c]).2.2 with
  | true => rfl
  | false => exact absurd h (cut_1f hc)
theorem mem_split {c : UInt8} : ∀ {s : List UInt8}, c ∈ s → ∃ a b, s = a ++ c :: b ∧ c ∉ a := by
  intro s h
  exact ⟨_, _, cut_t (cut_1t h), cut_1mem⟩
end Go.Proofs.YtakojeefilpibaaDoor
namespace Go.Proofs.YtakojeefilpibaaDoor
set_option linter.all false
open Go.RowKit
open Go.Lib (index hasPrefix trimPrefix cut indexAny)
def npartS : Spec := fun xs hp => match xs, hp with
  | [.str p], [] => some ⟨.str (partL p), [], p ≠ [] ∧ p.length ≤ 1000000⟩
  | _, _ => none
def phiNP : Phi := phiL [(23, [], noneS), (22, [], bwsS), (24, [], bstrS), (25, [], cutS), (26, [], ntoldS), (27, [], nkeptS)]
theorem phiNP_ok : PhiOk Tryd.prog phiNP := phi_cons none1_ok (by kernel_rfl) (phi_cons bws_ok (by kernel_rfl) (phi_cons bstr_ok (by kernel_rfl) (phi_cons cut_ok (by kernel_rfl) (phi_cons ntold_ok (by kernel_rfl) (phi_cons nkept_ok (by kernel_rfl) phi_nil)))))
theorem phiNP_1 : phiNP 23 = some ([], noneS) := rfl
theorem phiNP_2 : phiNP 22 = some ([], bwsS) := rfl
theorem phiNP_3 : phiNP 24 = some ([], bstrS) := rfl
theorem phiNP_4 : phiNP 25 = some ([], cutS) := rfl
theorem phiNP_5 : phiNP 26 = some ([], ntoldS) := rfl
theorem phiNP_6 : phiNP 27 = some ([], nkeptS) := rfl
theorem toldL_len (c : UInt8) : (toldL c).length = 3 := rfl
theorem ofNat_at8 (s : List UInt8) (i : Nat) : UInt8.ofNat (at8 s i).toNat = s.getD i 0 := by unfold at8; simp
theorem at8_rng (s : List UInt8) (i : Nat) : 0 ≤ at8 s i ∧ at8 s i < 256 := ⟨at8_lo s i, by have := at8_hi s i; omega⟩
theorem at8_eq (s : List UInt8) (i : Nat) (k : UInt8) : decide (at8 s i = (k.toNat : Int)) = decide (s.getD i 0 = k) := by
  rw [decide_eq_decide]; unfold at8
  exact ⟨fun h => UInt8.toNat_inj.1 (by omega), fun h => by rw [h]⟩
theorem kept_len (p : List UInt8) (h : keptL (frontP (encP p)) = true) : 3 ≤ (st2 (st1 (encP p))).length := by
  obtain ⟨a, b, c, r, h1, ka, kb, kc⟩ := kept_three h
  obtain ⟨r2, h2⟩ := front_pre (encP p)
  rw [h1] at h2
  have e1 : st1 (encP p) = a :: b :: c :: (r ++ r2) := by
    rw [h2]
    show (if dotB a = true then _ else _) = _
    rw [kl_dot ka, if_neg Bool.false_ne_true]; rfl
  rw [e1]
  unfold st2
  split
  · simp only [List.length_append, List.length_take, List.length_cons, toldL, List.length_nil]; omega
  · simp
section
variable {pr : Prop}
theorem part_75 (s : List UInt8) : ZL phiNP 0 k_npart_t0_75 (retQ2 r_npart 0 ⟨.str s, [], pr⟩) (ofS ⟨[(6, .str s)], []⟩) := .fin (by
  simp only [k_npart_t0_75, r_npart, go_sem, Nat.reduceDiv, Nat.reduceMod, ↓reduceIte, Nat.reduceEqDiff, Nat.reduceBEq, Nat.reduceSub, Nat.reduceLT, Nat.reduceAdd, Nat.reduceLeDiff, reduceCtorEq, Int.reduceEq, Int.reduceNe, Int.reduceLT, Int.reduceLE, Int.reduceToNat])
theorem part_64 (s f : List UInt8) (h : keptL f = true → 3 ≤ s.length) (hs : s.length ≤ 1000000000) (hf : f.length ≤ 1000000000) : ZL phiNP 0 k_npart_t0_64 (retQ2 r_npart 0 ⟨.str (st3 (keptL f) s), [], pr⟩) (ofS ⟨[(6, .str s), (7, .str f)], []⟩) := by
  refine .step ?_
  cases hk : keptL f with
  | false =>
    unfold st3
    rw [if_neg Bool.false_ne_true]
    simp only [phiNP_6, nkeptS, hk, go_sem, Nat.reduceDiv, Nat.reduceMod, ↓reduceIte, Nat.reduceEqDiff, Nat.reduceBEq, Nat.reduceSub, Nat.reduceLT, Nat.reduceAdd, Nat.reduceLeDiff, reduceCtorEq, Int.reduceEq, Int.reduceNe, Int.reduceLT, Int.reduceLE, Int.reduceToNat]
    refine ⟨by omega, .kp [] [6] [] _ rfl rfl rfl (part_75 s)⟩
  | true =>
    have h3 := h hk
    unfold st3
    rw [if_pos rfl]
    simp only [phiNP_5, phiNP_6, nkeptS, ntoldS, hk, ofNat_at8, List.take_length, toldL_len, go_sem, Nat.reduceDiv, Nat.reduceMod, ↓reduceIte, Nat.reduceEqDiff, Nat.reduceBEq, Nat.reduceSub, Nat.reduceLT, Nat.reduceAdd, Nat.reduceLeDiff, reduceCtorEq, Int.reduceEq, Int.reduceNe, Int.reduceLT, Int.reduceLE, Int.reduceToNat]
    have r1 := at8_rng s 2
    refine ⟨by omega, by omega, by omega, r1, by (simp only [lenOk, List.length_append, List.length_take, List.length_drop, toldL_len]; omega), ⟨by omega, by omega⟩, by (simp only [lenOk, List.length_append, List.length_take, List.length_drop, toldL_len]; omega), .kp [] [6] [] _ rfl rfl rfl (part_75 _)⟩
theorem dot_dec (s : List UInt8) (i : Nat) : dotB (s.getD i 0) = (decide (at8 s i = 46) || decide (at8 s i = 32)) := by
  rw [show (46 : Int) = ((46 : UInt8).toNat : Int) from rfl, show (32 : Int) = ((32 : UInt8).toNat : Int) from rfl, at8_eq, at8_eq]; rfl
theorem part_43 (s f : List UInt8) (h0 : s ≠ []) (h : keptL f = true → 3 ≤ (st2 s).length) (hs : s.length ≤ 100000000) (hf : f.length ≤ 1000000000) : ZL phiNP 0 k_npart_t0_43 (retQ2 r_npart 0 ⟨.str (st3 (keptL f) (st2 s)), [], pr⟩) (ofS ⟨[(6, .str s), (7, .str f)], []⟩) := by
  have hl : 0 < s.length := List.length_pos_iff.2 h0
  have e1 : ((s.length : Int) - 1).toNat = s.length - 1 := by omega
  have hd := dot_dec s (s.length - 1)
  have r1 := at8_rng s (s.length - 1)
  have next : ∀ s', st2 s = s' → s'.length ≤ 1000000000 → ZL phiNP 0 k_npart_t0_64 (retQ2 r_npart 0 ⟨.str (st3 (keptL f) (st2 s)), [], pr⟩) (ofS ⟨[(6, .str s'), (7, .str f)], []⟩) := fun s' e hl => by
    rw [e]; exact part_64 s' f (by rw [← e]; exact h) hl hf
  refine .step ?_
  cases g1 : decide (at8 s (s.length - 1) = 46) with
  | true =>
    have hs2 : st2 s = s.take (s.length - 1) ++ toldL (s.getD (s.length - 1) 0) := by unfold st2; rw [hd, g1, Bool.true_or, if_pos rfl]
    simp only [phiNP_5, ntoldS, g1, e1, ofNat_at8, toldL_len, List.length_append, go_sem, Nat.reduceDiv, Nat.reduceMod, ↓reduceIte, Nat.reduceEqDiff, Nat.reduceBEq, Nat.reduceSub, Nat.reduceLT, Nat.reduceAdd, Nat.reduceLeDiff, reduceCtorEq, Int.reduceEq, Int.reduceNe, Int.reduceLT, Int.reduceLE, Int.reduceToNat]
    (repeat' apply And.intro)
    all_goals first | omega | (simp only [lenOk, List.length_append, List.length_take, List.length_drop, toldL_len]; omega) | exact .kp [] [6, 7] [] _ rfl rfl rfl (next _ hs2 (by simp only [List.length_append, List.length_take, toldL_len]; omega)) | skip
  | false =>
    cases g2 : decide (at8 s (s.length - 1) = 32) with
    | true =>
      have hs2 : st2 s = s.take (s.length - 1) ++ toldL (s.getD (s.length - 1) 0) := by unfold st2; rw [hd, g2, Bool.or_true, if_pos rfl]
      simp only [phiNP_5, ntoldS, g1, g2, e1, ofNat_at8, toldL_len, List.length_append, go_sem, Nat.reduceDiv, Nat.reduceMod, ↓reduceIte, Nat.reduceEqDiff, Nat.reduceBEq, Nat.reduceSub, Nat.reduceLT, Nat.reduceAdd, Nat.reduceLeDiff, reduceCtorEq, Int.reduceEq, Int.reduceNe, Int.reduceLT, Int.reduceLE, Int.reduceToNat]
      (repeat' apply And.intro)
      all_goals first | omega | (simp only [lenOk, List.length_append, List.length_take, List.length_drop, toldL_len]; omega) | exact .kp [] [6, 7] [] _ rfl rfl rfl (next _ hs2 (by simp only [List.length_append, List.length_take, toldL_len]; omega)) | skip
    | false =>
      have hs2 : st2 s = s := by unfold st2; rw [hd, g1, g2, Bool.or_false, if_neg Bool.false_ne_true]
      simp only [g1, g2, e1, go_sem, Nat.reduceDiv, Nat.reduceMod, ↓reduceIte, Nat.reduceEqDiff, Nat.reduceBEq, Nat.reduceSub, Nat.reduceLT, Nat.reduceAdd, Nat.reduceLeDiff, reduceCtorEq, Int.reduceEq, Int.reduceNe, Int.reduceLT, Int.reduceLE, Int.reduceToNat]
      (repeat' apply And.intro)
      all_goals first | omega | (simp only [lenOk, List.length_append, List.length_take, List.length_drop, toldL_len]; omega) | exact .kp [] [6, 7] [] _ rfl rfl rfl (next _ hs2 (by omega)) | skip
theorem part_29 (s f : List UInt8) (h0 : s ≠ []) (h : keptL f = true → 3 ≤ (st2 (st1 s)).length) (hs : s.length ≤ 10000000) (hf : f.length ≤ 1000000000) : ZL phiNP 0 k_npart_t0_29 (retQ2 r_npart 0 ⟨.str (st3 (keptL f) (st2 (st1 s))), [], pr⟩) (ofS ⟨[(6, .str s), (7, .str f)], []⟩) := by
  obtain ⟨c, r, rfl⟩ : ∃ c r, s = c :: r := by cases s with | nil => exact absurd rfl h0 | cons c r => exact ⟨c, r, rfl⟩
  have hl : (c :: r).length = r.length + 1 := rfl
  have hd := dot_dec (c :: r) 0
  rw [List.getD_cons_zero] at hd
  have r1 := at8_rng (c :: r) 0
  have hu := ofNat_at8 (c :: r) 0
  rw [List.getD_cons_zero] at hu
  have hdr : (c :: r).drop 1 = r := rfl
  have next : ∀ s', st1 (c :: r) = s' → s' ≠ [] → s'.length ≤ 100000000 → ZL phiNP 0 k_npart_t0_43 (retQ2 r_npart 0 ⟨.str (st3 (keptL f) (st2 (st1 (c :: r)))), [], pr⟩) (ofS ⟨[(6, .str s'), (7, .str f)], []⟩) := fun s' e hn hl => by
    rw [e]; exact part_43 s' f hn (by rw [← e]; exact h) hl hf
  have hs1 : st1 (c :: r) = if dotB c = true then toldL c ++ r else c :: r := rfl
  generalize hS : c :: r = S at *
  refine .step ?_
  cases g1 : decide (at8 S 0 = 46) with
  | true =>
    rw [hd, g1, Bool.true_or, if_pos rfl] at hs1
    simp only [phiNP_5, ntoldS, g1, hu, hdr, toldL_len, List.take_length, go_sem, Nat.reduceDiv, Nat.reduceMod, ↓reduceIte, Nat.reduceEqDiff, Nat.reduceBEq, Nat.reduceSub, Nat.reduceLT, Nat.reduceAdd, Nat.reduceLeDiff, reduceCtorEq, Int.reduceEq, Int.reduceNe, Int.reduceLT, Int.reduceLE, Int.reduceToNat]
    (repeat' apply And.intro)
    all_goals first | omega | (simp only [lenOk, List.length_append, List.length_take, List.length_drop, toldL_len]; omega) | exact .kp [] [6, 7] [] _ rfl rfl rfl (next _ hs1 (by simp [toldL]) (by simp only [List.length_append, toldL_len]; omega)) | skip
  | false =>
    cases g2 : decide (at8 S 0 = 32) with
    | true =>
      rw [hd, g2, Bool.or_true, if_pos rfl] at hs1
      simp only [phiNP_5, ntoldS, g1, g2, hu, hdr, toldL_len, List.take_length, go_sem, Nat.reduceDiv, Nat.reduceMod, ↓reduceIte, Nat.reduceEqDiff, Nat.reduceBEq, Nat.reduceSub, Nat.reduceLT, Nat.reduceAdd, Nat.reduceLeDiff, reduceCtorEq, Int.reduceEq, Int.reduceNe, Int.reduceLT, Int.reduceLE, Int.reduceToNat]
      (repeat' apply And.intro)
      all_goals first | omega | (simp only [lenOk, List.length_append, List.length_take, List.length_drop, toldL_len]; omega) | exact .kp [] [6, 7] [] _ rfl rfl rfl (next _ hs1 (by simp [toldL]) (by simp only [List.length_append, toldL_len]; omega)) | skip
    | false =>
      rw [hd, g1, g2, Bool.or_false, if_neg Bool.false_ne_true] at hs1
      simp only [g1, g2, go_sem, Nat.reduceDiv, Nat.reduceMod, ↓reduceIte, Nat.reduceEqDiff, Nat.reduceBEq, Nat.reduceSub, Nat.reduceLT, Nat.reduceAdd, Nat.reduceLeDiff, reduceCtorEq, Int.reduceEq, Int.reduceNe, Int.reduceLT, Int.reduceLE, Int.reduceToNat]
      (repeat' apply And.intro)
      all_goals first | omega | (simp only [lenOk, List.length_append, List.length_take, List.length_drop, toldL_len]; omega) | exact .kp [] [6, 7] [] _ rfl rfl rfl (next _ hs1 (by rw [← hS]; simp) (by omega)) | skip
end
theorem cut_front : ∀ s : List UInt8, (cut s [46]).1 = frontP s := fun s => by
  by_cases h : (46 : UInt8) ∈ s
  · obtain ⟨a, b, rfl, ha⟩ := mem_split h
    rw [cut_1 ha]
    show a = frontP (a ++ 46 :: b)
    clear h
    induction a with
    | nil => rfl
    | cons x a ih =>
      have hx : x ≠ 46 := fun e => ha (by rw [e]; exact List.mem_cons_self ..)
      have := ih fun hm => ha (List.mem_cons_of_mem _ hm)
      show x :: a = frontP (x :: (a ++ 46 :: b))
      rw [frontP, if_neg hx, ← this]
  · rw [cut_1n h]
    show s = frontP s
    induction s with
    | nil => rfl
    | cons x s ih =>
      have hx : x ≠ 46 := fun e => h (by rw [e]; exact List.mem_cons_self ..)
      have := ih fun hm => h (List.mem_cons_of_mem _ hm)
      rw [frontP, if_neg hx, ← this]
def bX : Nat → AV
  | 0 => .con (.pointer none)
  | _ + 1 => .ref 0 0 0
set_option maxHeartbeats 2000000 in
theorem npart_ok : FnOk Tryd.prog 11 npartS := by
  refine fn_slimL (pr := false) Tryd.func11 s_npart phiNP_ok ?_
  intro xs hp r hs hp'
  unfold npartS at hs
  split at hs
  · injection hs with hs; subst hs
    rename_i p
    obtain ⟨h0, h1⟩ := hp'
    have hl : 0 < p.length := List.length_pos_iff.2 h0
    refine ⟨len_le (by kernel_rfl), ?_⟩
    unfold c_npart
    refine .step ?_
    simp only [go_sem, Nat.reduceDiv, Nat.reduceMod, ↓reduceIte, Nat.reduceEqDiff, Nat.reduceBEq, Nat.reduceSub, Nat.reduceLT, Nat.reduceAdd, Nat.reduceLeDiff, reduceCtorEq, Int.reduceEq, Int.reduceNe, Int.reduceLT, Int.reduceLE, Int.reduceToNat]
    refine .step ?_
    simp only [go_sem, Nat.reduceDiv, Nat.reduceMod, ↓reduceIte, Nat.reduceEqDiff, Nat.reduceBEq, Nat.reduceSub, Nat.reduceLT, Nat.reduceAdd, Nat.reduceLeDiff, reduceCtorEq, Int.reduceEq, Int.reduceNe, Int.reduceLT, Int.reduceLE, Int.reduceToNat]
    refine .step ?_
    simp only [go_sem, Nat.reduceDiv, Nat.reduceMod, ↓reduceIte, Nat.reduceEqDiff, Nat.reduceBEq, Nat.reduceSub, Nat.reduceLT, Nat.reduceAdd, Nat.reduceLeDiff, reduceCtorEq, Int.reduceEq, Int.reduceNe, Int.reduceLT, Int.reduceLE, Int.reduceToNat]
    refine ⟨by (simp only [lenOk, List.length_append, List.length_take, List.length_drop, toldL_len]; omega), ?_⟩
    refine loop2P (m := 0) [(4097, 5, 1)] [3, 12, 13, 14] [0, 1, 2] (fun i : Nat => ⟨[(3, .ref 0 0 0), (12, .own 1 0), (13, .int .i64 (p.length : Int)), (14, .int .i64 (i : Int))],
      [.cells 41 [(1, bX i), (1, .own 2 i)], .row 5 1 0 (Bs p), .row 5 1 i (Bs (encP (p.take i)))]⟩)
      (fun i => i ≤ p.length) (fun i => p.length - i) 0 (by rfl) (Nat.zero_le _) ⟨rfl, by rfl⟩ (fun i hi R hR => ?_)
    by_cases hil : i < p.length
    · have c1 : decide ((i : Int) < (p.length : Int)) = true := decide_eq_true (by omega)
      have r1 : (p.getD i 0).toNat < 256 := UInt8.toNat_lt _
      have hga : p.getD i 0 = p[i] := by simp [List.getD_eq_getElem?_getD, List.getElem?_eq_getElem hil]
      have hen : encP (p.take i) ++ encC (p.getD i 0) = encP (p.take (i + 1)) := by rw [hga]; exact flatMap_take encC p hil
      have hle : (encP (p.take (i + 1))).length ≤ 3000000 := by have := encP_len (p.take (i + 1)); rw [List.length_take] at this; omega
      rw [← hen, List.length_append] at hle
      cases i with
      | zero =>
        have hX : selfX (.con (.pointer none)) = true := rfl
        rw [List.take_zero] at hle hen
        have c0 : decide ((0 : Int) < (p.length : Int)) = true := decide_eq_true (by omega)
        simp only [b_npart_0, bX, c0, Int.cast_ofNat_Int, UInt8.ofNat_toNat, phiNP_1, phiNP_2, noneS, bwsS, hX, if_true, and_self, Int.toNat_natCast, Bs_len, go_sem, Nat.reduceDiv, Nat.reduceMod, ↓reduceIte, Nat.reduceEqDiff, Nat.reduceBEq, Nat.reduceSub, Nat.reduceLT, Nat.reduceAdd, Nat.reduceLeDiff, reduceCtorEq, Int.reduceEq, Int.reduceNe, Int.reduceLT, Int.reduceLE, Int.reduceToNat]
        (repeat' apply And.intro); all_goals first | omega | (simp only [bytesOk]; omega) | (first | omega | (simp only [lenOk, bytesOk, inI, IntKind.bits, List.length_append, Bs_len, List.length_cons, List.length_nil, List.length_map, List.length_take, List.length_drop, List.length_replicate]; omega)) | skip
        rw [Bs_app]
        exact hR _ 1 hil (by omega) (by rw [← hen]; rfl)
      | succ i =>
        have hX : selfX (.ref 0 0 0) = true := rfl
        simp only [b_npart_0, bX, c1, UInt8.ofNat_toNat, phiNP_1, phiNP_2, noneS, bwsS, hX, if_true, and_self, Int.toNat_natCast, Bs_len, go_sem, Nat.reduceDiv, Nat.reduceMod, ↓reduceIte, Nat.reduceEqDiff, Nat.reduceBEq, Nat.reduceSub, Nat.reduceLT, Nat.reduceAdd, Nat.reduceLeDiff, reduceCtorEq, Int.reduceEq, Int.reduceNe, Int.reduceLT, Int.reduceLE, Int.reduceToNat]
        (repeat' apply And.intro); all_goals first | omega | (simp only [bytesOk]; omega) | (first | omega | (simp only [lenOk, bytesOk, inI, IntKind.bits, List.length_append, Bs_len, List.length_cons, List.length_nil, List.length_map, List.length_take, List.length_drop, List.length_replicate]; omega)) | skip
        rw [Bs_app]
        exact hR _ (i + 1 + 1) hil (by omega) (by rw [← hen]; rfl)
    · have c1 : decide ((i : Int) < (p.length : Int)) = false := decide_eq_false (by omega)
      obtain rfl : i = p.length := by omega
      have hX : bX p.length = .ref 0 0 0 := by
        cases h : p.length with
        | zero => omega
        | succ n => rfl
      rw [List.take_length, hX]
      have hle := encP_len p
      simp only [b_npart_0, c1, go_sem, Nat.reduceDiv, Nat.reduceMod, ↓reduceIte, Nat.reduceEqDiff, Nat.reduceBEq, Nat.reduceSub, Nat.reduceLT, Nat.reduceAdd, Nat.reduceLeDiff, reduceCtorEq, Int.reduceEq, Int.reduceNe, Int.reduceLT, Int.reduceLE, Int.reduceToNat]
      unfold t_npart_0
      refine .step ?_
      simp only [phiNP_3, bstrS, unB_Bs, and_self, if_true, go_sem, Nat.reduceDiv, Nat.reduceMod, ↓reduceIte, Nat.reduceEqDiff, Nat.reduceBEq, Nat.reduceSub, Nat.reduceLT, Nat.reduceAdd, Nat.reduceLeDiff, reduceCtorEq, Int.reduceEq, Int.reduceNe, Int.reduceLT, Int.reduceLE, Int.reduceToNat]
      refine .step ?_
      simp only [phiNP_4, cutS, go_sem, Nat.reduceDiv, Nat.reduceMod, ↓reduceIte, Nat.reduceEqDiff, Nat.reduceBEq, Nat.reduceSub, Nat.reduceLT, Nat.reduceAdd, Nat.reduceLeDiff, reduceCtorEq, Int.reduceEq, Int.reduceNe, Int.reduceLT, Int.reduceLE, Int.reduceToNat]
      have hfl : (frontP (encP p)).length ≤ (encP p).length := by
        obtain ⟨r, hr⟩ := front_pre (encP p)
        have := congrArg List.length hr
        rw [List.length_append] at this; omega
      have hne : encP p ≠ [] := by
        cases p with
        | nil => exact absurd rfl h0
        | cons c p =>
          have e : encP (c :: p) = encC c ++ encP p := rfl
          rw [e]; simp [encC_ne]
      refine ⟨by omega, .kp [] [6, 7] [] ⟨[(6, .str (encP p)), (7, .str (frontP (encP p)))], []⟩ rfl rfl (by rw [← cut_front]; rfl) ?_⟩
      exact part_29 (encP p) (frontP (encP p)) hne (kept_len p) (by omega) (by omega)
  · cases hs
end Go.Proofs.YtakojeefilpibaaDoor
namespace Go.Proofs.YtakojeefilpibaaDoor
set_option linter.all false
open Go.RowKit
set_option maxHeartbeats 2000000 in
set_option maxRecDepth 1000000 in
theorem bgrow_walk (b n : Nat) (w : World) (hbk : w.heap[b]? = some (.cells #[.pointer (some ⟨b, 0, none⟩), .slice none 0 0] 41 (0, 0))) (hn : n ≤ 281474976710656) :
    Calls Tryd.prog 41 #[.pointer (some ⟨b, 0, none⟩), .int .i64 n] w fun e w' => e = .returned (.tuple #[]) ∧ ∃ (cs : Array Value), cs.size ≤ 9223372036854775807 ∧ w' = ((w.setCell ⟨b, 1, none⟩ (.slice (some ⟨w.heap.size, 0, none⟩) 0 cs.size)).alloc (.cells cs 5)).drew.drew.drew := by
  obtain ⟨cs, hrun, hle, hmax⟩ := Lib.run_makeNoZero (P := Tryd.prog) w.drew #[3] 39 5 Tryd.underlying39 n hn
  have hw : IntKind.i64.wrap (IntKind.i64.wrap 0 + (n : Int)) = n := by
    rw [IntKind.wrap_i64, IntKind.wrap_i64]
    omega
  have hcall : (callFunc 54 #[.int .i64 (IntKind.i64.wrap (IntKind.i64.wrap 0 + (n : Int)))]).run Tryd.prog w.drew = .ok (.value (.slice (some ⟨w.drew.heap.size, 0, none⟩) n cs.size)) (w.drew.drew.drew.alloc (.cells cs 5)) := by
    rw [hw, run_callFunc_extern Tryd.func54 (by kernel_rfl) (by kernel_rfl) (by kernel_rfl) (e := Extern.BytealgMakeNoZero.makeNoZero #[3] #[39]) (by kernel_rfl), hrun]
    rfl
  have hlt : b < w.heap.size := by
    rcases Nat.lt_or_ge b w.heap.size with h' | h'
    · exact h'
    · simp [Array.getElem?_eq_none h'] at hbk
  have c1 : w.drew.cell? ⟨b, 1, none⟩ = some (.slice none 0 0) := by
    have : w.drew.heap[b]? = _ := hbk
    rw [Lib.cell_of_heap this]; rfl
  have c2 : (w.alloc (.cells cs 5)).cell? ⟨b, 1, none⟩ = some (.slice none 0 0) := by
    have : (w.alloc (.cells cs 5)).heap[b]? = _ := (Lib.alloc_old w _ b hlt).trans hbk
    rw [Lib.cell_of_heap this]; rfl
  have f2 : (w.alloc (.cells cs 5)).frozen? ⟨b, 1, none⟩ = false := Lib.frozen_of_heap ((Lib.alloc_old w _ b hlt).trans hbk) 1
  have hcopy : ∀ W : World, (Builtin.copy_ #[39, 39] 3 #[.slice (some ⟨w.heap.size, 0, none⟩) 0 cs.size, .slice none 0 0]).run Tryd.prog W = .ok (goInt 0) W :=
    fun W => run_copy_none W 39 39 3 5 _ _ 0 cs.size 0 0 Tryd.underlying39 (by kernel_rfl) rfl
  clear hw
  have hm : cs.size ≤ 9223372036854775807 := by have := hmax (by unfold maxLen; omega); simpa [maxLen] using this
  have mixed : Tryd.prog.follows Departure.mixedOrders = true := by kernel_rfl
  go_enter Tryd.func41, Tryd.ntmps41
  go_wp2
  go_region_o
  all_goals (go_wp2; go_end0; exact ⟨rfl, cs, hm, rfl⟩)
set_option maxHeartbeats 2000000 in
set_option maxRecDepth 1000000 in
theorem bGrow_walk (b n : Nat) (w w1 : World) (hcc : Calls Tryd.prog 38 #[.pointer (some ⟨b, 0, none⟩)] w fun e w' => e = .returned (.tuple #[]) ∧ w' = w1)
    (hbk1 : w1.heap[b]? = some (.cells #[.pointer (some ⟨b, 0, none⟩), .slice none 0 0] 41 (0, 0))) (hn : n ≤ 281474976710656) :
    Calls Tryd.prog 28 #[.pointer (some ⟨b, 0, none⟩), .int .i64 n] w fun e w' => e = .returned (.tuple #[]) ∧
      (w' = w1.drew ∨ ∃ (cs : Array Value), cs.size ≤ 9223372036854775807 ∧ w' = ((w1.drew.setCell ⟨b, 1, none⟩ (.slice (some ⟨w1.heap.size, 0, none⟩) 0 cs.size)).alloc (.cells cs 5)).drew.drew.drew) := by
  have c1 : w1.cell? ⟨b, 1, none⟩ = some (.slice none 0 0) := by rw [Lib.cell_of_heap hbk1]; rfl
  have c1' : w1.drew.cell? ⟨b, 1, none⟩ = some (.slice none 0 0) := c1
  have hbk2 : w1.drew.heap[b]? = some (.cells #[.pointer (some ⟨b, 0, none⟩), .slice none 0 0] 41 (0, 0)) := hbk1
  have mixed : Tryd.prog.follows Departure.mixedOrders = true := by kernel_rfl
  go_enter Tryd.func28, Tryd.ntmps28
  go_wp2_with (go_at_call 38; refine hcc.mono ?_; rintro e w' ⟨rfl, h0⟩; obtain rfl := h0.symm)
  go_region_o
  all_goals go_wp2_with (go_at_call 41; refine (bgrow_walk b n w1.drew hbk2 hn).mono ?_; rintro e w' ⟨rfl, cs, h1, rfl⟩)
  all_goals first
    | (go_end0; exact ⟨rfl, .inr ⟨cs, h1, rfl⟩⟩)
    | (go_end0; exact ⟨rfl, .inl rfl⟩)
end Go.Proofs.YtakojeefilpibaaDoor
namespace Go.Proofs.YtakojeefilpibaaDoor
set_option linter.all false
open Go.RowKit
def growS : Spec := fun xs hp => match xs, hp with
  | [.ref 0 0 0, .int .i64 n], [.cells T [(1, X), (1, .con (.slice none 0 0))]] => if selfX X = true then some ⟨.tup [], [.cells T [(1, .ref 0 0 0), (1, .own 1 0)], .row 5 1 0 []], T = 41 ∧ 0 ≤ n ∧ n ≤ 140737488355328⟩ else none
  | _, _ => none
theorem grown_heap {F : Nat → Prop} {w0 wA wB w' : World} {S : Nat → Prop} {ρ : Rho} {g c : Nat} {A : Option Addr} (HA : HeapOk F w0 S ρ [.cells 41 [(1, .ref 0 0 0), (1, .con (.slice none 0 0))]] wA)
    (hl : ρ 0 0 = some ⟨some ⟨g, 0, none⟩, 0, 0, 0⟩) (hbel : Below wA.heap.size wA wB) (hrw : Rw wB 5 ⟨A, c, 0, 1⟩ []) (hA : ∀ b, ablk A = some b → wA.heap.size ≤ b ∧ b < wB.heap.size)
    (hg : wB.grownBy w' (some g)) (hb' : w'.heap[g]? = some (.cells #[.pointer (some ⟨g, 0, none⟩), .slice A 0 c] 41 (0, 0))) :
    HeapOk F w0 S (rset ρ 1 0 ⟨A, c, 0, 1⟩) [.cells 41 [(1, .ref 0 0 0), (1, .own 1 0)], .row 5 1 0 []] w' ∧ Ext wA w' S S ρ (rset ρ 1 0 ⟨A, c, 0, 1⟩) := by
  have hn : ∀ v, ρ 1 v = none := fun v => HA.new 1 (Nat.le_refl _) v
  have hloc : ∀ i v L, ρ i v = some L → rset ρ 1 0 ⟨A, c, 0, 1⟩ i v = some L := by
    intro i v L h
    by_cases e : i = 1 ∧ v = 0
    · rw [e.1, hn] at h; cases h
    · rw [rset_ne _ _ _ _ e]; exact h
  obtain ⟨HB, EB⟩ := HA.push (S' := S) (ρ' := rset ρ 1 0 ⟨A, c, 0, 1⟩) (o' := .row 5 1 0 []) hbel (fun _ h => h) (fun _ h => .inl h) hloc (fun i v h => rset_ne _ _ _ _ (fun e => h e.1))
    ⟨⟨A, c, 0, 1⟩, [], rset_self _ _ _ _, rfl, rfl, hrw, rfl, fun b hb hs => by have := (hA b hb).1; have := HA.slt b hs; omega⟩
    (fun v hv => by show rset ρ 1 0 ⟨A, c, 0, 1⟩ 1 v = none; rw [rset_ne _ _ _ _ (fun e => by have h0 : 0 < v := hv; omega)]; exact hn v)
    (fun b hb => (hA b (by simpa [AObj.blk, rset_self] using hb)).1)
  have h00 : rset ρ 1 0 ⟨A, c, 0, 1⟩ 0 0 = some ⟨some ⟨g, 0, none⟩, 0, 0, 0⟩ := by rw [rset_ne _ _ _ _ (by decide)]; exact hl
  have hblk : (AObj.cells 41 [(1, .ref 0 0 0), (1, .con (.slice none 0 0))]).blk (rset ρ 1 0 ⟨A, c, 0, 1⟩) 0 = some g := by simp [AObj.blk, h00, ablk]
  have hob := HB.ob 0 _ rfl
  have hnS : ¬ S g := by
    obtain ⟨g2, us, k1, _, _, k4⟩ := hob
    rw [h00] at k1; injection k1 with k1; injection k1 with k1; injection k1 with k1; injection k1 with k1
    rw [k1]; exact k4
  obtain ⟨HC, EC⟩ := HB.upd (id := 0) (S' := S) (ρ' := rset ρ 1 0 ⟨A, c, 0, 1⟩) (o' := .cells 41 [(1, .ref 0 0 0), (1, .own 1 0)]) rfl (by rw [hblk]; exact hg) (fun _ h => h) (fun _ h => .inl h) (fun _ _ _ h => h) (fun _ _ _ => rfl)
    ⟨g, [.pointer (some ⟨g, 0, none⟩), .slice A 0 c], h00, hb', ⟨[_], [_], rfl, rfl, .ref 0 0 0 g _ h00 rfl, [_], [], rfl, rfl, .own 1 0 ⟨A, c, 0, 1⟩ (rset_self _ _ _ _), rfl⟩, hnS⟩ (fun v hv => HB.vers 0 _ rfl v hv) (fun b hb => .inl (by simpa [AObj.blk] using hb))
  exact ⟨HC, EB.trans EC⟩
theorem grow_ok : FnOk Tryd.prog 28 growS := by
  intro xs0 hp r hs hp' w S ρ args H ha
  unfold growS at hs
  split at hs
  · rename_i n T X
    split at hs
    · rename_i hX
      injection hs with hs; subst hs
      obtain ⟨hT, n0, n1⟩ := hp'
      subst hT
      obtain ⟨v, vs, rfl, hv, hr⟩ := ha.get _ _ rfl
      obtain ⟨u, us0, rfl, hu, hr⟩ := hr.get _ _ rfl
      obtain rfl := hr.none
      rw [hu.int]
      obtain ⟨g, L, h1, h2, rfl⟩ := hv.ref
      obtain ⟨g', us, k1, k2, k3, k4⟩ := H.ob 0 _ rfl
      rw [h1] at k1; injection k1 with k1; subst k1
      injection h2 with h2; injection h2 with h2; subst h2
      obtain ⟨x, y, rfl, c1, c2⟩ := css_two k3
      have hlt : g' < w.heap.size := (Array.getElem?_eq_some_iff.1 k2).1
      have hy : y = .slice none 0 0 := by cases c2; rfl
      subst hy
      obtain ⟨m, rfl⟩ := Int.eq_ofNat_of_zero_le n0
      obtain ⟨s1, s2⟩ := setCells_row g' 41 (0, 0) [.pointer (some ⟨g', 0, none⟩)] 0 w _ k2 (by simp)
      have e1 : w.setCells g' 0 [.pointer (some ⟨g', 0, none⟩)] = w.setCell ⟨g', 0, none⟩ (.pointer (some ⟨g', 0, none⟩)) := rfl
      rw [e1] at s1 s2
      have s1 : (w.setCell ⟨g', 0, none⟩ (.pointer (some ⟨g', 0, none⟩))).heap[g']? = some (.cells #[.pointer (some ⟨g', 0, none⟩), .slice none 0 0] 41 (0, 0)) := by simpa using s1
      have hblk : (AObj.cells 41 [(1, X), (1, .con (.slice none 0 0))]).blk ρ 0 = some g' := by simp [AObj.blk, h1, ablk]
      obtain ⟨HA, EA⟩ := H.upd (id := 0) (S' := S) (ρ' := ρ) (o' := .cells 41 [(1, .ref 0 0 0), (1, .con (.slice none 0 0))]) rfl (by rw [hblk]; exact s2) (fun _ h => h) (fun _ h => .inl h) (fun _ _ _ h => h) (fun _ _ _ => rfl)
        ⟨g', [.pointer (some ⟨g', 0, none⟩), .slice none 0 0], h1, s1, ⟨[_], [_], rfl, rfl, .ref 0 0 0 g' _ h1 rfl, [_], [], rfl, rfl, .con _ rfl, rfl⟩, k4⟩ (fun v hv => H.vers 0 _ rfl v hv) (fun b hb => .inl (by simpa [AObj.blk] using hb))
      have fin : ∀ wA : World, Calls Tryd.prog 38 #[.pointer (some ⟨g', 0, none⟩)] w (fun e w' => e = .returned (.tuple #[]) ∧ w' = wA) →
          wA.heap[g']? = some (.cells #[.pointer (some ⟨g', 0, none⟩), .slice none 0 0] 41 (0, 0)) → wA.heap.size = w.heap.size →
          HeapOk (Lent ρ [.cells 41 [(1, X), (1, .con (.slice none 0 0))]]) w S ρ [.cells 41 [(1, .ref 0 0 0), (1, .con (.slice none 0 0))]] wA → Ext w wA S S ρ ρ →
          Calls Tryd.prog 28 #[.pointer (some ⟨g', 0, none⟩), .int .i64 m] w fun e w' => ∃ v S' ρ', e = .returned v ∧ Vl w' S' ρ' (.tup []) v ∧
            HeapOk (Lent ρ [.cells 41 [(1, X), (1, .con (.slice none 0 0))]]) w S' ρ' [.cells 41 [(1, .ref 0 0 0), (1, .own 1 0)], .row 5 1 0 []] w' ∧ Ext w w' S S' ρ ρ' ∧ (∀ b, S' b → S b ∨ w.heap.size ≤ b ∨ Lent ρ [.cells 41 [(1, X), (1, .con (.slice none 0 0))]] b) := by
        intro wA hcc s1 hsz HA EA
        refine (bGrow_walk g' m w wA hcc s1 (by omega)).mono ?_
        rintro e w' ⟨rfl, rfl | ⟨cs, hm, rfl⟩⟩
        · obtain ⟨HC, EC⟩ := grown_heap (A := none) (c := 0) (wB := wA) (w' := wA) HA h1 (Below.refl _ _) ⟨rfl, .inl ⟨rfl, rfl, rfl⟩⟩ (fun b hb => by cases hb) (World.grownBy.refl wA _) s1
          obtain ⟨HD, ED⟩ := HC.same (S' := S) (w' := wA.drew) (belowN (Below.refl _ wA) 1) (fun _ h => h) (fun _ h => .inl h)
          exact ⟨_, S, _, rfl, ⟨[], rfl, rfl, fun i hi => by simp at hi⟩, HD, (EA.trans EC).trans ED, fun b hb => .inl hb⟩
        · have hgl : g' < wA.heap.size := by omega
          have hal : (wA.alloc (.cells cs 5)).heap[g']? = some (.cells #[.pointer (some ⟨g', 0, none⟩), .slice none 0 0] 41 (0, 0)) := by
            rw [Lib.alloc_old wA _ g' hgl]; exact s1
          obtain ⟨t1, t2⟩ := setCells_row g' 41 (0, 0) [.slice (some ⟨wA.heap.size, 0, none⟩) 0 cs.size] 1 (wA.alloc (.cells cs 5)) _ hal (by simp)
          have e2 : (wA.alloc (.cells cs 5)).setCells g' 1 [.slice (some ⟨wA.heap.size, 0, none⟩) 0 cs.size] = (wA.alloc (.cells cs 5)).setCell ⟨g', 1, none⟩ (.slice (some ⟨wA.heap.size, 0, none⟩) 0 cs.size) := rfl
          rw [e2] at t1 t2
          obtain ⟨HC, EC⟩ := grown_heap (A := some ⟨wA.heap.size, 0, none⟩) (c := cs.size) (wB := wA.alloc (.cells cs 5)) HA h1 ((Below.refl _ _).alloc (Nat.le_refl _) _)
            ⟨rfl, .inr ⟨wA.heap.size, cs, (0, 0), rfl, heap_alloc_new wA _, .inl rfl, Nat.zero_le _, hm, by simp, by simp⟩⟩
            (fun b hb => by injection hb with hb; subst hb; exact ⟨Nat.le_refl _, by show wA.heap.size < (wA.heap.push _).size; rw [Array.size_push]; omega⟩) t2 (by simpa using t1)
          have ew : ((wA.drew.setCell ⟨g', 1, none⟩ (.slice (some ⟨wA.heap.size, 0, none⟩) 0 cs.size)).alloc (.cells cs 5)).drew.drew.drew = ((wA.alloc (.cells cs 5)).setCell ⟨g', 1, none⟩ (.slice (some ⟨wA.heap.size, 0, none⟩) 0 cs.size)).drew.drew.drew.drew := by
            rw [World.setCell_alloc_past (w := wA) _ g' 1 _ hgl]; rfl
          rw [ew]
          obtain ⟨HD, ED⟩ := HC.same (S' := S) ((Below.refl _ _).drew.drew.drew.drew) (fun _ h => h) (fun _ h => .inl h)
          exact ⟨_, S, _, rfl, ⟨[], rfl, rfl, fun i hi => by simp at hi⟩, HD, (EA.trans EC).trans ED, fun b hb => .inl hb⟩
      rcases selfX_or hX with rfl | rfl
      · have hxx : x = .pointer none := by cases c1; rfl
        subst hxx
        exact fin _ (copyCheck_fresh g' w (by simp [World.cell?, k2]) (by simp [World.shape?, k2]) (by simp [World.frozen?, k2])) s1 (by simp [World.setCell]) HA EA
      · have hxx : x = .pointer (some ⟨g', 0, none⟩) := by
          cases c1 with
          | ref _ _ _ g2 L2 q1 q2 =>
          rw [h1] at q1; injection q1 with q1; subst q1
          injection q2 with q2; injection q2 with q2; subst q2
          rfl
        subst hxx
        exact fin w (copyCheck_used g' w (by simp [World.cell?, k2])) k2 rfl H (Ext.refl _ _ _)
    · cases hs
  · cases hs
end Go.Proofs.YtakojeefilpibaaDoor
namespace Go.Proofs.YtakojeefilpibaaDoor
set_option linter.all false
open Go.RowKit
def b_sjoin_0 : ACode := (.seq (.reg none [⟨(some 42), (.bin .lss (.t 41) (.t 40)), none⟩]) (.seq (.cond (.t 42) .skip (.exit 1)) (.seq (.block 2 (.seq (.reg none [⟨(some 43), (.ia 1 (.str []) (.t 39) (.t 41)), none⟩, ⟨(some 44), (.ld (.one (.str [])) (.t 43)), none⟩, ⟨(some 7), (.mv (.t 44)), none⟩]) (.seq (.seq (.reg none [⟨(some 45), (.mv (.t 7)), none⟩, ⟨(some 46), (.len none true (.t 45)), none⟩, ⟨(some 47), (.mv (.t 5)), none⟩, ⟨(some 48), (.bin .sub (.c (.int .i64 9223372036854775807)) (.t 47)), none⟩, ⟨(some 49), (.bin .gtr (.t 46) (.t 48)), none⟩]) (.cond (.t 49) (.reg none [⟨(some 50), (.mkif 9 (.c (.str [115, 116, 114, 105, 110, 103, 115, 58, 32, 74, 111, 105, 110, 32, 111, 117, 116, 112, 117, 116, 32, 108, 101, 110, 103, 116, 104, 32, 111, 118, 101, 114, 102, 108, 111, 119]))), none⟩, ⟨none, .bad, none⟩]) .skip)) (.reg none [⟨(some 51), (.mv (.t 5)), none⟩, ⟨(some 52), (.mv (.t 7)), none⟩, ⟨(some 53), (.len none true (.t 52)), none⟩, ⟨(some 54), (.bin .add (.t 51) (.t 53)), none⟩, ⟨(some 5), (.mv (.t 54)), none⟩])))) (.reg none [⟨(some 55), (.bin .add (.t 41) (.c (.int .i64 1))), none⟩, ⟨(some 41), (.mv (.t 55)), none⟩]))))
def b_sjoin_1 : ACode := (.seq (.reg none [⟨(some 66), (.bin .lss (.t 65) (.t 64)), none⟩]) (.seq (.cond (.t 66) .skip (.exit 3)) (.seq (.block 4 (.seq (.reg none [⟨(some 67), (.ia 1 (.str []) (.t 63) (.t 65)), none⟩, ⟨(some 68), (.ld (.one (.str [])) (.t 67)), none⟩, ⟨(some 10), (.mv (.t 68)), none⟩]) (.seq (.reg none [⟨(some 69), (.mv (.t 1)), none⟩, ⟨(some 70), (.call 22 [(.t 8), (.t 69)]), none⟩]) (.reg none [⟨(some 71), (.mv (.t 10)), none⟩, ⟨(some 72), (.call 22 [(.t 8), (.t 71)]), none⟩])))) (.reg none [⟨(some 73), (.bin .add (.t 65) (.c (.int .i64 1))), none⟩, ⟨(some 65), (.mv (.t 73)), none⟩]))))
def t_sjoin_0 : ACode := (.seq (.reg none [⟨(some 74), (.call 24 [(.t 8)]), none⟩, ⟨(some 4), (.mv (.t 74)), none⟩]) .ret)
def t_sjoin_1 : ACode := (.seq (.reg none [⟨(some 8), (.new 41 [(1, (.con (.pointer none))), (1, (.con (.slice none 0 0)))]), none⟩]) (.seq (.reg none [⟨(some 56), (.mv (.t 5)), none⟩, ⟨(some 57), (.call 28 [(.t 8), (.t 56)]), none⟩]) (.seq (.reg none [⟨(some 58), (.mv (.t 0)), none⟩, ⟨(some 59), (.ia 1 (.str []) (.t 58) (.c (.int .i64 0))), none⟩, ⟨(some 60), (.ld (.one (.str [])) (.t 59)), none⟩, ⟨(some 61), (.call 22 [(.t 8), (.t 60)]), none⟩]) (.seq (.seq (.reg none [⟨(some 62), (.mv (.t 0)), none⟩, ⟨(some 63), (.sl 1 (.t 62) (some (.c (.int .i64 1))) none), none⟩, ⟨(some 64), (.len none false (.t 63)), none⟩, ⟨(some 65), (.mv (.c (.int .i64 0))), none⟩]) (.block 3 (.loop b_sjoin_1))) t_sjoin_0))))
def c_sjoin : ACode := (.seq (.reg none [⟨(some 4), (.mv (.c (.str []))), none⟩]) (.seq (.seq (.reg none [⟨(some 11), (.mv (.t 0)), none⟩, ⟨(some 12), (.len none false (.t 11)), none⟩]) (.block 0 (.seq (.reg none [⟨(some 14), (.bin .eql (.t 12) (.c (.int .i64 0))), none⟩, ⟨(some 13), (.mv (.t 14)), none⟩]) (.cond (.t 13) (.seq (.reg none [⟨(some 4), (.mv (.c (.str []))), none⟩]) .ret) (.seq (.reg none [⟨(some 16), (.bin .eql (.t 12) (.c (.int .i64 1))), none⟩, ⟨(some 15), (.mv (.t 16)), none⟩]) (.cond (.t 15) (.seq (.reg none [⟨(some 17), (.mv (.t 0)), none⟩, ⟨(some 18), (.ia 1 (.str []) (.t 17) (.c (.int .i64 0))), none⟩, ⟨(some 19), (.ld (.one (.str [])) (.t 18)), none⟩, ⟨(some 4), (.mv (.t 19)), none⟩]) .ret) .skip)))))) (.seq (.reg none [⟨(some 5), (.mv (.c (.int .i64 0))), none⟩]) (.seq (.seq (.reg none [⟨(some 20), (.mv (.t 1)), none⟩, ⟨(some 21), (.len none true (.t 20)), none⟩, ⟨(some 22), (.bin .gtr (.t 21) (.c (.int .i64 0))), none⟩]) (.cond (.t 22) (.seq (.seq (.reg none [⟨(some 23), (.mv (.t 1)), none⟩, ⟨(some 24), (.len none true (.t 23)), none⟩, ⟨(some 25), (.mv (.t 0)), none⟩, ⟨(some 26), (.len none false (.t 25)), none⟩, ⟨(some 27), (.bin .sub (.t 26) (.c (.int .i64 1))), none⟩, ⟨(some 28), (.bin .quo (.c (.int .i64 9223372036854775807)) (.t 27)), none⟩, ⟨(some 29), (.bin .geq (.t 24) (.t 28)), none⟩]) (.cond (.t 29) (.reg none [⟨(some 30), (.mkif 9 (.c (.str [115, 116, 114, 105, 110, 103, 115, 58, 32, 74, 111, 105, 110, 32, 111, 117, 116, 112, 117, 116, 32, 108, 101, 110, 103, 116, 104, 32, 111, 118, 101, 114, 102, 108, 111, 119]))), none⟩, ⟨none, .bad, none⟩]) .skip)) (.reg none [⟨(some 31), (.mv (.t 5)), none⟩, ⟨(some 32), (.mv (.t 1)), none⟩, ⟨(some 33), (.len none true (.t 32)), none⟩, ⟨(some 34), (.mv (.t 0)), none⟩, ⟨(some 35), (.len none false (.t 34)), none⟩, ⟨(some 36), (.bin .sub (.t 35) (.c (.int .i64 1))), none⟩, ⟨(some 37), (.bin .mul (.t 33) (.t 36)), none⟩, ⟨(some 38), (.bin .add (.t 31) (.t 37)), none⟩, ⟨(some 5), (.mv (.t 38)), none⟩])) .skip)) (.seq (.seq (.reg none [⟨(some 39), (.mv (.t 0)), none⟩, ⟨(some 40), (.len none false (.t 39)), none⟩, ⟨(some 41), (.mv (.c (.int .i64 0))), none⟩]) (.block 1 (.loop b_sjoin_0))) t_sjoin_1)))))
def r_sjoin : List ARes := [(.t 4)]
theorem s_sjoin : slimF Tryd.prog Tryd.f12 = some (c_sjoin, r_sjoin) := by kernel_rfl
end Go.Proofs.YtakojeefilpibaaDoor
namespace Go.Proofs.YtakojeefilpibaaDoor
set_option linter.all false
open Go.RowKit
def joinW (sep : List UInt8) : List (List UInt8) → List UInt8
  | [] => []
  | x :: xs => x ++ xs.flatMap (sep ++ ·)
def sumL (xs : List (List UInt8)) : Nat := (xs.map List.length).sum
def joinS : Spec := fun xs hp => match xs, hp with
  | [.sl kq ps, .str sep], [] => some ⟨.str (joinW sep (ps.map unS)), [], ps = (ps.map unS).map AV.str ∧ (kq = 1 ∨ ps = []) ∧ ps.length ≤ 1000000 ∧ sep.length ≤ 1000000 ∧ sumL (ps.map unS) ≤ 1000000000⟩
  | _, _ => none
theorem sum_take (xs : List (List UInt8)) {i : Nat} (h : i < xs.length) : sumL (xs.take (i + 1)) = sumL (xs.take i) + xs[i].length := by
  unfold sumL
  rw [List.take_add_one, List.getElem?_eq_getElem h, Option.toList_some, List.map_append, List.sum_append]; simp
theorem sum_take_le (xs : List (List UInt8)) (i : Nat) : sumL (xs.take i) ≤ sumL xs := by
  conv => rhs; rw [← List.take_append_drop i xs]
  unfold sumL
  rw [List.map_append, List.sum_append]; omega
theorem flat_sep_len (sep : List UInt8) (xs : List (List UInt8)) : (xs.flatMap (sep ++ ·)).length = sep.length * xs.length + sumL xs := by
  induction xs with
  | nil => simp [sumL]
  | cons x xs ih =>
    rw [List.flatMap_cons, List.length_append, ih, List.length_append, List.length_cons, Nat.mul_add]
    simp only [sumL, List.map_cons, List.sum_cons]; omega
theorem quo_big {k : Nat} (h0 : 0 < k) (h1 : k ≤ 1000000) : (9000000000000 : Int) ≤ (9223372036854775807 : Int).tdiv (k : Int) := by
  rw [Int.tdiv_eq_ediv_of_nonneg (by decide)]
  exact Int.le_ediv_of_mul_le (by omega) (by omega)
def phiJ : Phi := phiL [(28, [], growS), (22, [], bwsS), (24, [], bstrS)]
theorem phiJ_ok : PhiOk Tryd.prog phiJ := phi_cons grow_ok (by kernel_rfl) (phi_cons bws_ok (by kernel_rfl) (phi_cons bstr_ok (by kernel_rfl) phi_nil))
theorem phiJ_1 : phiJ 28 = some ([], growS) := rfl
theorem phiJ_2 : phiJ 22 = some ([], bwsS) := rfl
theorem phiJ_3 : phiJ 24 = some ([], bstrS) := rfl
set_option maxHeartbeats 2000000 in
theorem join_core {sep x : List UInt8} {ys : List (List UInt8)} (n0 : Int) (h0 : 0 ≤ n0) (h1 : n0 ≤ 1000000000000) (hl : (x :: ys).length ≤ 1000000) (hsp : sep.length ≤ 1000000) (hsm : sumL (x :: ys) ≤ 1000000000) (pr : Prop) (s0 : S2)
    (hk : ent [] [0, 1, 5, 39, 40, 41] [] (toS s0) = some ⟨[(0, .sl 1 ((x :: ys).map AV.str)), (1, .str sep), (5, .int .i64 n0), (39, .sl 1 ((x :: ys).map AV.str)), (40, .int .i64 ((x :: ys).length : Int)), (41, .int .i64 ((0 : Nat) : Int))], []⟩) :
    loopQ2 0 (awp2 phiJ 0 b_sjoin_0) (inQ2 1 (thenQ2 (awp2 phiJ 0 t_sjoin_1 (retQ2 r_sjoin 0 ⟨.str (joinW sep (x :: ys)), [], pr⟩)) (retQ2 r_sjoin 0 ⟨.str (joinW sep (x :: ys)), [], pr⟩))) s0 := by
  have hjw : joinW sep (x :: ys) = x ++ ys.flatMap (sep ++ ·) := rfl
  have hsx : sumL (x :: ys) = x.length + sumL ys := by simp [sumL]
  have hyl : (x :: ys).length = ys.length + 1 := rfl
  have hd1 : (((x :: ys).map AV.str).take (x :: ys).length).drop 1 = ys.map AV.str := by rw [List.take_of_length_le (by simp)]; rfl
  have hg0 : ((x :: ys).map AV.str).getD 0 (AV.str []) = AV.str x := rfl
  have hml : ((x :: ys).map AV.str).length = (x :: ys).length := List.length_map ..
  generalize hzs : x :: ys = zs at *
  refine loop2P [] [0, 1, 5, 39, 40, 41] [] (fun q : Nat × Int => ⟨[(0, .sl 1 (zs.map AV.str)), (1, .str sep), (5, .int .i64 q.2), (39, .sl 1 (zs.map AV.str)), (40, .int .i64 (zs.length : Int)), (41, .int .i64 (q.1 : Int))], []⟩)
    (fun q => q.1 ≤ zs.length ∧ 0 ≤ q.2 ∧ q.2 ≤ 1000000000000 + (sumL (zs.take q.1) : Int)) (fun q => zs.length - q.1) (0, n0) hk ⟨Nat.zero_le _, h0, by simp only [List.take_zero, sumL, List.map_nil, List.sum_nil]; omega⟩ ⟨rfl, by rfl⟩ (fun q hq R hR => ?_)
  obtain ⟨i, n⟩ := q
  simp only at hq hR ⊢
  obtain ⟨i1, i2, i3⟩ := hq
  have hst := sum_take_le zs i
  by_cases hil : i < zs.length
  · have c1 : decide ((i : Int) < (zs.length : Int)) = true := decide_eq_true (by omega)
    have hget := getD_map AV.str zs [] (AV.str []) hil
    have hga : zs.getD i [] = zs[i] := by simp [List.getD_eq_getElem?_getD, List.getElem?_eq_getElem hil]
    have hsk := sum_take zs hil
    have hsl := sum_take_le zs (i + 1)
    have c2 : decide ((9223372036854775807 : Int) - n < (zs[i].length : Int)) = false := decide_eq_false (by omega)
    simp only [b_sjoin_0, c1, c2, hget, hga, Int.toNat_natCast, hml, go_sem, Nat.reduceDiv, Nat.reduceMod, ↓reduceIte, Nat.reduceEqDiff, Nat.reduceBEq, Nat.reduceSub, Nat.reduceLT, Nat.reduceAdd, Nat.reduceLeDiff, reduceCtorEq, Int.reduceEq, Int.reduceNe, Int.reduceLT, Int.reduceLE, Int.reduceToNat]
    refine ⟨⟨by omega, by omega⟩, ⟨by omega, by omega⟩, ⟨by omega, by omega⟩, ⟨by omega, by omega⟩, hR _ (i + 1, n + (zs[i].length : Int)) ⟨hil, by simp only; omega, by simp only; omega⟩ (by simp only; omega) rfl⟩
  · have c1 : decide ((i : Int) < (zs.length : Int)) = false := decide_eq_false (by omega)
    have hX0 : selfX (.con (.pointer none)) = true := rfl
    have hX1 : selfX (.ref 0 0 0) = true := rfl
    have hz0 : 0 < zs.length := by omega
    simp only [b_sjoin_0, t_sjoin_1, c1, phiJ_1, phiJ_2, growS, bwsS, hX0, hX1, hg0, hd1, hml, if_true, go_sem, Nat.reduceDiv, Nat.reduceMod, ↓reduceIte, Nat.reduceEqDiff, Nat.reduceBEq, Nat.reduceSub, Nat.reduceLT, Nat.reduceAdd, Nat.reduceLeDiff, reduceCtorEq, Int.reduceEq, Int.reduceNe, Int.reduceLT, Int.reduceLE, Int.reduceToNat]
    have hfl := flat_sep_len sep ys
    have hsy : sep.length * ys.length ≤ 1000000 * 1000000 := Nat.mul_le_mul hsp (by omega)
    refine ⟨⟨by omega, by omega⟩, by omega, by (first | omega | (simp only [lenOk, bytesOk, inI, IntKind.bits, List.length_append, Bs_len, List.length_cons, List.length_nil, List.length_map, List.length_take, List.length_drop, List.length_replicate]; omega)), ⟨by omega, by omega⟩, ?_⟩
    clear hR R
    refine loop2P [] [1, 8, 63, 64, 65] [0, 1] (fun j : Nat => ⟨[(1, .str sep), (8, .ref 0 0 0), (63, .sl 1 (ys.map AV.str)), (64, .int .i64 (ys.length : Int)), (65, .int .i64 (j : Int))], [.cells 41 [(1, .ref 0 0 0), (1, .own 1 (1 + 2 * j))], .row 5 1 (1 + 2 * j) (Bs (x ++ (ys.take j).flatMap (sep ++ ·)))]⟩)
      (fun j => j ≤ ys.length) (fun j => ys.length - j) 0 ?_ (Nat.zero_le _) ⟨rfl, by rfl⟩ (fun j hj R hR => ?_)
    · simp only [List.take_zero, List.flatMap_nil, List.append_nil]
      rfl
    by_cases hjl : j < ys.length
    · have d1 : decide ((j : Int) < (ys.length : Int)) = true := decide_eq_true (by omega)
      have hgetj := getD_map AV.str ys [] (AV.str []) hjl
      have hgaj : ys.getD j [] = ys[j] := by simp [List.getD_eq_getElem?_getD, List.getElem?_eq_getElem hjl]
      have hlt := flatMap_take_le (sep ++ ·) ys (j + 1)
      have hft := flatMap_take (sep ++ ·) ys hjl
      rw [← hft] at hlt
      simp only [List.length_append] at hlt
      simp only [b_sjoin_1, d1, phiJ_2, bwsS, hX1, hgetj, hgaj, if_true, Int.toNat_natCast, List.length_map, Bs_app, go_sem, Nat.reduceDiv, Nat.reduceMod, ↓reduceIte, Nat.reduceEqDiff, Nat.reduceBEq, Nat.reduceSub, Nat.reduceLT, Nat.reduceAdd, Nat.reduceLeDiff, reduceCtorEq, Int.reduceEq, Int.reduceNe, Int.reduceLT, Int.reduceLE, Int.reduceToNat]
      refine ⟨⟨by omega, by omega⟩, by simp only [bytesOk, List.length_append]; omega, by simp only [bytesOk, List.length_append]; omega, ⟨by omega, by omega⟩, hR _ (j + 1) hjl (by omega) ?_⟩
      have e : x ++ (ys.take (j + 1)).flatMap (sep ++ ·) = x ++ (ys.take j).flatMap (sep ++ ·) ++ sep ++ ys[j] := by rw [← hft]; simp
      rw [e]
      rfl
    · have d1 : decide ((j : Int) < (ys.length : Int)) = false := decide_eq_false (by omega)
      obtain rfl : j = ys.length := by omega
      rw [List.take_length, ← hjw]
      simp only [b_sjoin_1, t_sjoin_0, r_sjoin, d1, phiJ_3, bstrS, unB_Bs, if_true, go_sem, Nat.reduceDiv, Nat.reduceMod, ↓reduceIte, Nat.reduceEqDiff, Nat.reduceBEq, Nat.reduceSub, Nat.reduceLT, Nat.reduceAdd, Nat.reduceLeDiff, reduceCtorEq, Int.reduceEq, Int.reduceNe, Int.reduceLT, Int.reduceLE, Int.reduceToNat]
set_option maxHeartbeats 2000000 in
theorem join_ok : FnOk Tryd.prog 12 joinS := by
  refine fn_slim2 Tryd.func12 s_sjoin phiJ_ok ?_
  intro xs hp r hs hp'
  unfold joinS at hs
  split at hs
  · injection hs with hs; subst hs
    rename_i kq ps sep
    obtain ⟨p1, p2, p3, p4, p5⟩ := hp'
    generalize ps.map unS = ps at *
    subst p1
    rw [List.length_map] at p3
    refine ⟨len_le (by kernel_rfl), ?_⟩
    match ps, p2, p3, p5 with
    | [], _, _, _ =>
      simp only [c_sjoin, r_sjoin, joinW, go_sem, Nat.reduceDiv, Nat.reduceMod, ↓reduceIte, Nat.reduceEqDiff, Nat.reduceBEq, Nat.reduceSub, Nat.reduceLT, Nat.reduceAdd, Nat.reduceLeDiff, reduceCtorEq, Int.reduceEq, Int.reduceNe, Int.reduceLT, Int.reduceLE, Int.reduceToNat]
    | [x], p2, _, _ =>
      have hk : kq = 1 := p2.resolve_right (by simp)
      subst hk
      simp only [c_sjoin, r_sjoin, joinW, List.flatMap_nil, List.append_nil, go_sem, Nat.reduceDiv, Nat.reduceMod, ↓reduceIte, Nat.reduceEqDiff, Nat.reduceBEq, Nat.reduceSub, Nat.reduceLT, Nat.reduceAdd, Nat.reduceLeDiff, reduceCtorEq, Int.reduceEq, Int.reduceNe, Int.reduceLT, Int.reduceLE, Int.reduceToNat]
    | x :: y :: rest, p2, p3, p5 =>
      have hk : kq = 1 := p2.resolve_right (by simp)
      subst hk
      clear p2
      have hcore := fun n0 h0 h1 => join_core (sep := sep) (x := x) (ys := y :: rest) n0 h0 h1 p3 p4 p5
      have hpos : 2 ≤ (x :: y :: rest).length := by simp
      generalize x :: y :: rest = zs at *
      have d0 : decide ((zs.length : Int) = 0) = false := decide_eq_false (by omega)
      have d1 : decide ((zs.length : Int) = 1) = false := decide_eq_false (by omega)
      have hq := quo_big (k := zs.length - 1) (by omega) (by omega)
      have hq : (9000000000000 : Int) ≤ (9223372036854775807 : Int).tdiv ((zs.length : Int) - 1) := by rwa [show ((zs.length - 1 : Nat) : Int) = (zs.length : Int) - 1 by omega] at hq
      have hq2 : (9223372036854775807 : Int).tdiv ((zs.length : Int) - 1) ≤ 9223372036854775807 := by
        rw [Int.tdiv_eq_ediv_of_nonneg (by decide)]
        exact Int.ediv_le_self _ (by decide)
      have d3 : decide ((9223372036854775807 : Int).tdiv ((zs.length : Int) - 1) ≤ (sep.length : Int)) = false := decide_eq_false (by omega)
      have hmul : 0 ≤ (sep.length : Int) * ((zs.length : Int) - 1) ∧ (sep.length : Int) * ((zs.length : Int) - 1) ≤ 1000000000000 := by
        have h1 : sep.length * (zs.length - 1) ≤ 1000000 * 1000000 := Nat.mul_le_mul p4 (by omega)
        have h2 : (sep.length : Int) * ((zs.length : Int) - 1) = ((sep.length * (zs.length - 1) : Nat) : Int) := by
          rw [Int.natCast_mul, show ((zs.length - 1 : Nat) : Int) = (zs.length : Int) - 1 by omega]
        omega
      obtain ⟨hm0, hm1⟩ := hmul
      cases h2 : decide (0 < (sep.length : Int)) with
      | false =>
        simp only [c_sjoin, d0, d1, h2, List.length_map, go_sem, Nat.reduceDiv, Nat.reduceMod, ↓reduceIte, Nat.reduceEqDiff, Nat.reduceBEq, Nat.reduceSub, Nat.reduceLT, Nat.reduceAdd, Nat.reduceLeDiff, reduceCtorEq, Int.reduceEq, Int.reduceNe, Int.reduceLT, Int.reduceLE, Int.reduceToNat]
        exact hcore 0 (by omega) (by omega) _ _ (by rfl)
      | true =>
        simp only [c_sjoin, d0, d1, d3, h2, List.length_map, go_sem, Nat.reduceDiv, Nat.reduceMod, ↓reduceIte, Nat.reduceEqDiff, Nat.reduceBEq, Nat.reduceSub, Nat.reduceLT, Nat.reduceAdd, Nat.reduceLeDiff, reduceCtorEq, Int.reduceEq, Int.reduceNe, Int.reduceLT, Int.reduceLE, Int.reduceToNat]
        generalize (9223372036854775807 : Int).tdiv ((zs.length : Int) - 1) = Q at *
        generalize (sep.length : Int) * ((zs.length : Int) - 1) = M at *
        exact ⟨⟨by omega, by omega⟩, ⟨by omega, by omega, by omega⟩, ⟨by omega, by omega⟩, ⟨by omega, by omega⟩, ⟨by omega, by omega⟩, hcore (0 + M) (by omega) (by omega) _ _ (by rfl)⟩
  · cases hs
end Go.Proofs.YtakojeefilpibaaDoor
