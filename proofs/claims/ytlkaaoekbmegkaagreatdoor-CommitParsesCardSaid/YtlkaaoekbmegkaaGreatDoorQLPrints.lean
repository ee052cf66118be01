import Derived.Test.YtlkaaoekbmegkaaGreatDoorQLComCode
import Derived.Test.YtlkaaoekbmegkaaGreatDoorQLinLaw
import Derived.Test.YtlkaaoekbmegkaaGreatDoorQFRCom1
namespace Go.Proofs.YtlkaaoekbmegkaaGreatDoor
set_option linter.all false
open Go.RowKit
open Go.Lib (itoa)
theorem flat_id (l : List (List UInt8)) : (∀ x ∈ l.map idAV, flatB 4 x = true) = True := by
  refine eq_true fun x hx => ?_
  obtain ⟨y, _, rfl⟩ := List.mem_map.1 hx; rfl
theorem flat_exs (l : List ExL) : (∀ x ∈ l.map exV, flatB 4 x = true) = True := by
  refine eq_true fun x hx => ?_
  obtain ⟨y, _, rfl⟩ := List.mem_map.1 hx; rfl
theorem flat_Bs (l : List UInt8) : (∀ x ∈ Bs l, flatB 4 x = true) = True := eq_true (flat_B l)
theorem sameC_self (c : ComL) : sameC c c = true := sameC_iff.2 rfl
end Go.Proofs.YtlkaaoekbmegkaaGreatDoor
namespace Go.Proofs.YtlkaaoekbmegkaaGreatDoor
set_option linter.all false
open Go.RowKit
open Go.Lib (index hasPrefix cut indexAny itoa decDigits)
def lofTagS : Spec := fun xs hp => match xs, hp with
  | [.agg [(20, .blob o), (1, .int .i64 k), (1, .str n), (1, .str wn), (1, .str wm), (1, .int .i64 wt), (1, .str wz), (1, .str m)]], [] =>
    some ⟨.agg [(20, .blob o), (1, .int .i64 k), (1, .str n), (1, .str wn), (1, .str wm), (1, .int .i64 wt), (1, .str wz), (1, .str m)], [], o.length = 20⟩
  | _, _ => none
theorem lofTag_ok : FnOk Tryz.prog 25 lofTagS := by
  refine fn_slim2 Tryz.func25 s_lofTag (Φ := phiL [(17, [], lwhoOfS)]) (phi_cons lwhoOf_ok (by kernel_rfl) phi_nil) ?_
  intro xs hp r hs hp'
  unfold lofTagS at hs
  split at hs
  · injection hs with hs; subst hs
    rename_i o k n wn wm wt wz m
    have p1 : o.length = 20 := hp'
    refine ⟨len_le (by kernel_rfl), ?_⟩
    simp only [c_lofTag, r_lofTag, lwhoOfS, go_sem, Nat.reduceDiv, Nat.reduceMod, ↓reduceIte, Nat.reduceEqDiff, Nat.reduceBEq, Nat.reduceSub, Nat.reduceLT, Nat.reduceAdd, Nat.reduceLeDiff, reduceCtorEq, Int.reduceEq, Int.reduceNe, Int.reduceLT, Int.reduceLE, Int.reduceToNat]
    try exact p1
  · cases hs
end Go.Proofs.YtlkaaoekbmegkaaGreatDoor
namespace Go.Proofs.YtlkaaoekbmegkaaGreatDoor
set_option linter.all false
open Go.RowKit
open Go.Lib (index hasPrefix cut indexAny itoa)
noncomputable def rpartR (t : TagL) (ok : Bool) (pr : Prop) : Option Ret := if ok = true then
    some ⟨.tup [.agg (tagPs t.object t.kind t.name t.tagger t.message), .bool true], [], pr⟩
  else some ⟨.tup [.agg tag0, .bool false], [], pr⟩
noncomputable def rpartS : Spec := fun xs hp => match xs, hp with
  | [.str s], [] => rpartR (guessT (linesA [] s)) (decide (6 ≤ (linesA [] s).length) && (rightT (guessT (linesA [] s)) && decide (bodyT (guessT (linesA [] s)) = s))) (s.length ≤ 10000)
  | _, _ => none
theorem rpartR_pre {c : TagL} {ok : Bool} {pr : Prop} {r : Ret} (h : rpartR c ok pr = some r) (hr : r.pre) : pr := by
  unfold rpartR at h
  split at h <;> (injection h with h; subst h; exact hr)
noncomputable def phiRpart : Phi := phiL [(47, [], rfrontS), (55, [], rparseS), (20, [], rguessS), (57, [], wordS), (28, [], rrtagS), (29, [], rprtS), (54, [], rlinesS)]
theorem phiRpart_ok : PhiOk Tryz.prog phiRpart := phi_cons rfront_ok (by kernel_rfl) (phi_cons rparse_ok (by kernel_rfl) (phi_cons rguess_ok (by kernel_rfl) (phi_cons rword_ok (by kernel_rfl) (phi_cons rrtag_ok (by kernel_rfl) (phi_cons rprt_ok (by kernel_rfl) (phi_cons rlines_ok (by kernel_rfl) phi_nil))))))
theorem phiRpart_1 : phiRpart 47 = some ([], rfrontS) := rfl
theorem phiRpart_2 : phiRpart 55 = some ([], rparseS) := rfl
theorem phiRpart_3 : phiRpart 20 = some ([], rguessS) := rfl
theorem phiRpart_4 : phiRpart 57 = some ([], wordS) := rfl
theorem phiRpart_5 : phiRpart 28 = some ([], rrtagS) := rfl
theorem phiRpart_6 : phiRpart 29 = some ([], rprtS) := rfl
theorem phiRpart_7 : phiRpart 54 = some ([], rlinesS) := rfl
theorem kindN_rng (w : List UInt8) : 0 ≤ kindN w ∧ kindN w ≤ 4 := by
  unfold kindN; repeat' split
  all_goals decide
theorem kindN_iff (w : List UInt8) {k : Nat} (h1 : 1 ≤ k) (h2 : k ≤ 4) : wordL k = w ↔ kindN w = k := by
  constructor
  · exact kindN_at h1 h2
  · intro h
    have := (kind_word (s := w) (by omega)).1
    rw [h] at this; exact this
def hpT (L : List (List UInt8)) (o : List UInt8) (k : Int) (n : List UInt8) (w : WhoL) (m : List UInt8) : List AObj :=
  [.cells 64 tag0, .row 9 1 L.length (L.map AV.str), .cells 64 (tagPs o k n w m)]
set_option maxHeartbeats 4000000 in
theorem rpart_ok : FnOk Tryz.prog 24 rpartS := by
  refine fn_slim2 Tryz.func24 s_rpart phiRpart_ok ?_
  intro xs hp r hs hp'
  unfold rpartS at hs
  split at hs
  · rename_i s
    have p1 := rpartR_pre hs hp'
    refine ⟨len_le (by kernel_rfl), ?_⟩
    have hw := wLin_lines s []
    generalize hL : linesA [] s = L at *
    have hLl : L.length ≤ s.length + 1 := by have := linesA_len s []; rw [hL] at this; exact this
    have hLe : ∀ l ∈ L, l.length ≤ 10000 := by intro l hl; rw [← hL] at hl; have := linesA_le s [] l hl; simp only [List.length_nil] at this; omega
    simp only [List.length_nil] at hw
    by_cases h6 : 6 ≤ L.length
    rotate_left
    · have c0 : decide ((L.length : Int) < 6) = true := decide_eq_true (by omega)
      rw [decide_eq_false h6, Bool.false_and] at hs
      unfold rpartR at hs
      simp only [Bool.false_eq_true, if_false] at hs
      injection hs with hs; subst hs
      simp only [c_rpart, r_rpart, phiRpart_1, phiRpart_2, phiRpart_3, phiRpart_4, phiRpart_5, phiRpart_6, phiRpart_7, rfrontS, rparseS, rguessS, wordS, hpT, tagPs, tag0, who0, rlinesS, hL, c0, go_sem, Nat.reduceDiv, Nat.reduceMod, ↓reduceIte, Nat.reduceEqDiff, Nat.reduceBEq, Nat.reduceSub, Nat.reduceLT, Nat.reduceAdd, Nat.reduceLeDiff, reduceCtorEq, Int.reduceEq, Int.reduceNe, Int.reduceLT, Int.reduceLE, Int.reduceToNat]
      exact ⟨by omega, rfl⟩
    have c0 : decide ((L.length : Int) < 6) = false := decide_eq_false (by omega)
    rw [decide_eq_true h6, Bool.true_and] at hs
    have hget : ∀ n, n < L.length → (L.map AV.str).getD n (AV.str []) = AV.str (L.getD n []) := fun n hn => getD_map AV.str L [] (AV.str []) hn
    have hg0 := hget 0 (by omega)
    have hg1 := hget 1 (by omega)
    have hg2 := hget 2 (by omega)
    have hg3 := hget 3 (by omega)
    have hlen : ∀ n, (L.getD n []).length ≤ 10000 := by
      intro n
      rcases Nat.lt_or_ge n L.length with h | h
      · rw [List.getD_eq_getElem?_getD, List.getElem?_eq_getElem h]; exact hLe _ (List.getElem_mem _)
      · rw [List.getD_eq_getElem?_getD, List.getElem?_eq_none h]; simp
    have hl0 := hlen 0
    have hl1 := hlen 1
    have hl2 := hlen 2
    have hl3 := hlen 3
    have hr20 : ∀ l, (rOut l).length = 20 := fun l => by rw [rOut_eq]; exact pOut_len l
    have hf0 := frontL_len (L.getD 0 []) objW
    have hf1 := frontL_len (L.getD 1 []) typW
    have hf2 := frontL_len (L.getD 2 []) tagW
    have hf3 := frontL_len (L.getD 3 []) tgrW
    have hwo : ([111, 98, 106, 101, 99, 116, 32] : List UInt8) = objW := rfl
    have hwy : ([116, 121, 112, 101, 32] : List UInt8) = typW := rfl
    have hwt : ([116, 97, 103, 32] : List UInt8) = tagW := rfl
    have hwg : ([116, 97, 103, 103, 101, 114, 32] : List UInt8) = tgrW := rfl
    have hgw := guessW_len (frontL (L.getD 3 []) tgrW)
    have i6 : 6 ≤ L.length ∧ L.length ≤ 10001 := ⟨h6, by omega⟩
    simp only [c_rpart, phiRpart_1, phiRpart_2, phiRpart_3, phiRpart_4, phiRpart_5, phiRpart_6, phiRpart_7, rfrontS, rparseS, rguessS, wordS, hpT, tagPs, tag0, who0, rlinesS, hL, c0, hg0, hwo, hr20, go_sem, Nat.reduceDiv, Nat.reduceMod, ↓reduceIte, Nat.reduceEqDiff, Nat.reduceBEq, Nat.reduceSub, Nat.reduceLT, Nat.reduceAdd, Nat.reduceLeDiff, reduceCtorEq, Int.reduceEq, Int.reduceNe, Int.reduceLT, Int.reduceLE, Int.reduceToNat]
    refine ⟨by omega, by omega, by omega, ⟨by omega, by decide⟩, by omega, ?_⟩
    unfold guessT at hs
    have ho20 := hr20 (frontL (L.getD 0 []) objW)
    generalize rOut (frontL (L.getD 0 []) objW) = o at *
    refine loop2P [] [0, 2, 4, 5, 6] [0, 1, 2] (fun q : Nat × Int => ⟨[(0, .str s), (2, .ref 0 0 0), (4, .own 1 L.length), (5, .ref 2 0 0), (6, .int .i64 (q.1 : Int))], hpT L o q.2 [] who0 []⟩)
      (fun q => 1 ≤ q.1 ∧ q.1 ≤ 5 ∧ q.2 = if kindN (frontL (L.getD 1 []) typW) < q.1 then kindN (frontL (L.getD 1 []) typW) else 0) (fun q => 5 - q.1) (1, 0) (by rfl) ⟨Nat.le_refl _, by decide, ?_⟩ ⟨rfl, by rfl⟩ (fun q hq R hR => ?_)
    · have := kindN_rng (frontL (L.getD 1 []) typW)
      simp only
      split <;> omega
    have hkr := kindN_rng (frontL (L.getD 1 []) typW)
    obtain ⟨k, kd⟩ := q
    simp only at hq hR ⊢
    obtain ⟨h1, h2, h3⟩ := hq
    by_cases hk5 : k ≤ 4
    · have c1 : decide ((k : Int) ≤ 4) = true := decide_eq_true (by omega)
      have hki := kindN_iff (frontL (L.getD 1 []) typW) h1 hk5
      cases hkk : decide (wordL k = frontL (L.getD 1 []) typW) with
      | true =>
        have hke := hki.1 (of_decide_eq_true hkk)
        simp only [b_rpart_0, r_rpart, phiRpart_1, phiRpart_2, phiRpart_3, phiRpart_4, phiRpart_5, phiRpart_6, phiRpart_7, rfrontS, rparseS, rguessS, wordS, hpT, tagPs, tag0, who0, hwy, c1, hg1, hkk, go_sem, Nat.reduceDiv, Nat.reduceMod, ↓reduceIte, Nat.reduceEqDiff, Nat.reduceBEq, Nat.reduceSub, Nat.reduceLT, Nat.reduceAdd, Nat.reduceLeDiff, reduceCtorEq, Int.reduceEq, Int.reduceNe, Int.reduceLT, Int.reduceLE, Int.reduceToNat]
        refine ⟨by omega, by omega, ⟨by omega, by decide⟩, ⟨by omega, by omega⟩, hR _ (k + 1, (k : Int)) ⟨by simp only; omega, by simp only; omega, by simp only; rw [hke, if_pos (by omega)]⟩ (by simp only; omega) (by rfl)⟩
      | false =>
        have hke := of_decide_eq_false hkk
        have hke2 : kindN (frontL (L.getD 1 []) typW) ≠ k := fun h => hke (hki.2 h)
        simp only [b_rpart_0, r_rpart, phiRpart_1, phiRpart_2, phiRpart_3, phiRpart_4, phiRpart_5, phiRpart_6, phiRpart_7, rfrontS, rparseS, rguessS, wordS, hpT, tagPs, tag0, who0, hwy, c1, hg1, hkk, go_sem, Nat.reduceDiv, Nat.reduceMod, ↓reduceIte, Nat.reduceEqDiff, Nat.reduceBEq, Nat.reduceSub, Nat.reduceLT, Nat.reduceAdd, Nat.reduceLeDiff, reduceCtorEq, Int.reduceEq, Int.reduceNe, Int.reduceLT, Int.reduceLE, Int.reduceToNat]
        refine ⟨by omega, by omega, ⟨by omega, by decide⟩, ⟨by omega, by omega⟩, hR _ (k + 1, kd) ⟨by simp only; omega, by simp only; omega, by simp only; rw [h3]; split <;> split <;> omega⟩ (by simp only; omega) (by rfl)⟩
    · have c1 : decide ((k : Int) ≤ 4) = false := decide_eq_false (by omega)
      obtain rfl : k = 5 := by omega
      rw [if_pos (by omega)] at h3
      rw [← h3] at hs
      have hwi := wLin_drop L 5
      simp only [b_rpart_0, t_rpart_1, phiRpart_1, phiRpart_2, phiRpart_3, phiRpart_4, phiRpart_5, phiRpart_6, phiRpart_7, rfrontS, rparseS, rguessS, wordS, hpT, tagPs, tag0, who0, whoP, hwt, hwg, c1, hg2, hg3, go_sem, Nat.reduceDiv, Nat.reduceMod, ↓reduceIte, Nat.reduceEqDiff, Nat.reduceBEq, Nat.reduceSub, Nat.reduceLT, Nat.reduceAdd, Nat.reduceLeDiff, reduceCtorEq, Int.reduceEq, Int.reduceNe, Int.reduceLT, Int.reduceLE, Int.reduceToNat]
      refine ⟨by omega, by omega, ⟨by omega, by decide⟩, by omega, by omega, ⟨by omega, by decide⟩, by omega, ?_⟩
      have hnl : (frontL (L.getD 2 []) tagW).length ≤ 10000 := by omega
      have hgl : (guessW (frontL (L.getD 3 []) tgrW)).name.length + (guessW (frontL (L.getD 3 []) tgrW)).mail.length + (guessW (frontL (L.getD 3 []) tgrW)).zone.length ≤ 30000 ∧ inI (guessW (frontL (L.getD 3 []) tgrW)).time := ⟨by omega, by unfold inI; omega⟩
      clear hgw hf3 hf2
      generalize guessW (frontL (L.getD 3 []) tgrW) = gw at *
      generalize frontL (L.getD 2 []) tagW = nm at *
      refine loop2P [] [0, 2, 4, 5, 7] [0, 1, 2] (fun q : Nat × List UInt8 => ⟨[(0, .str s), (2, .ref 0 0 0), (4, .own 1 L.length), (5, .ref 2 0 0), (7, .int .i64 (((5 + q.1 : Nat)) : Int))], hpT L o kd nm gw q.2⟩)
        (fun q => 5 + q.1 ≤ L.length ∧ ((q.1 = 0 ∧ q.2 = []) ∨ (0 < q.1 ∧ jn q.2 (L.drop (5 + q.1)) = joinN (L.drop 5))) ∧ q.2.length + wLin (L.drop (5 + q.1)) ≤ 40000) (fun q => L.length - (5 + q.1)) (0, []) (by rfl) ⟨by simp only; omega, .inl ⟨rfl, rfl⟩, by simp only [List.length_nil, Nat.add_zero]; omega⟩ ⟨rfl, by rfl⟩ (fun q hq R hR => ?_)
      obtain ⟨n, m⟩ := q
      simp only at hq hR ⊢
      obtain ⟨h1, h2, h4⟩ := hq
      by_cases hil : 5 + n < L.length
      · have c1 : decide (((5 + n : Nat) : Int) < (L.length : Int)) = true := decide_eq_true (by omega)
        have hg := hget (5 + n) hil
        have hga : L.getD (5 + n) [] = L[5 + n] := by simp [List.getD_eq_getElem?_getD, List.getElem?_eq_getElem hil]
        have hd : L.drop (5 + n) = L[5 + n] :: L.drop (5 + n + 1) := List.drop_eq_getElem_cons hil
        rw [hd] at h2 h4
        generalize L[5 + n] = l at *
        simp only [wLin, List.map_cons, List.sum_cons] at h4
        rcases h2 with ⟨rfl, rfl⟩ | ⟨h2, h5⟩
        · have c1' : decide (5 < (L.length : Int)) = true := decide_eq_true (by omega)
          have hg' := hget 5 hil
          have hga' : L.getD 5 [] = l := hga
          simp only [b_rpart_1, r_rpart, phiRpart_1, phiRpart_2, phiRpart_3, phiRpart_4, phiRpart_5, phiRpart_6, phiRpart_7, rfrontS, rparseS, rguessS, wordS, hpT, tagPs, tag0, who0, c1', hg', hga', Int.toNat_natCast, go_sem, Nat.reduceDiv, Nat.reduceMod, ↓reduceIte, Nat.reduceEqDiff, Nat.reduceBEq, Nat.reduceSub, Nat.reduceLT, Nat.reduceAdd, Nat.reduceLeDiff, reduceCtorEq, Int.reduceEq, Int.reduceNe, Int.reduceLT, Int.reduceLE, Int.reduceToNat]
          refine ⟨by omega, hil, by (first | omega | (simp only [lenOk, bytesOk, inI, IntKind.bits, List.length_append, Bs_len, List.length_cons, List.length_nil, List.length_map, List.length_take, List.length_drop, List.length_replicate]; omega)), ⟨by omega, by omega⟩, hR _ (1, l) ⟨by simp only; omega, .inr ⟨Nat.one_pos, ?_⟩, ?_⟩ (by simp only; omega) rfl⟩
          · rw [show 5 + 0 = 5 from rfl] at hd
            rw [hd, join_jn]
          · simp only [List.length_nil] at h4
            show l.length + wLin (L.drop (5 + 0 + 1)) ≤ 40000
            unfold wLin; omega
        · have c2 : decide (5 < ((5 + n : Nat) : Int)) = true := decide_eq_true (by omega)
          simp only [b_rpart_1, r_rpart, phiRpart_1, phiRpart_2, phiRpart_3, phiRpart_4, phiRpart_5, phiRpart_6, phiRpart_7, rfrontS, rparseS, rguessS, wordS, hpT, tagPs, tag0, who0, c1, c2, hg, hga, Int.toNat_natCast, go_sem, Nat.reduceDiv, Nat.reduceMod, ↓reduceIte, Nat.reduceEqDiff, Nat.reduceBEq, Nat.reduceSub, Nat.reduceLT, Nat.reduceAdd, Nat.reduceLeDiff, reduceCtorEq, Int.reduceEq, Int.reduceNe, Int.reduceLT, Int.reduceLE, Int.reduceToNat]
          refine ⟨by (first | omega | (simp only [lenOk, bytesOk, inI, IntKind.bits, List.length_append, Bs_len, List.length_cons, List.length_nil, List.length_map, List.length_take, List.length_drop, List.length_replicate]; omega)), ⟨by omega, by omega⟩, hil, by (first | omega | (simp only [lenOk, bytesOk, inI, IntKind.bits, List.length_append, Bs_len, List.length_cons, List.length_nil, List.length_map, List.length_take, List.length_drop, List.length_replicate]; omega)), ⟨by omega, by omega⟩, hR _ (n + 1, m ++ [10] ++ l) ⟨by simp only; omega, .inr ⟨by omega, ?_⟩, ?_⟩ (by simp only; omega) rfl⟩
          · simp only
            rw [← h5, jn]; rfl
          · show (m ++ [10] ++ l).length + wLin (L.drop (5 + n + 1)) ≤ 40000
            simp only [List.length_append, List.length_cons, List.length_nil]
            unfold wLin; omega
      · have c1 : decide (((5 + n : Nat) : Int) < (L.length : Int)) = false := decide_eq_false (by omega)
        have hm : m = joinN (L.drop 5) := by
          rcases h2 with ⟨rfl, rfl⟩ | ⟨h2, h5⟩
          · omega
          · rw [List.drop_of_length_le (by omega)] at h5; exact h5
        rw [← hm] at hs
        have hsz : sizeOkT ⟨o, kd, nm, gw, m⟩ := ⟨ho20, by simp only; omega, by simp only; omega, by simp only; omega⟩
        have hti : inI gw.time := hgl.2
        cases hri : rightT ⟨o, kd, nm, gw, m⟩ with
        | false =>
          rw [hri, Bool.false_and] at hs
          unfold rpartR at hs
          simp only [Bool.false_eq_true, if_false] at hs
          injection hs with hs; subst hs
          simp only [b_rpart_1, t_rpart_0, r_rpart, phiRpart_1, phiRpart_2, phiRpart_3, phiRpart_4, phiRpart_5, phiRpart_6, phiRpart_7, rfrontS, rparseS, rguessS, wordS, hpT, tagPs, tag0, who0, rrtagS, unV_U, c1, hri, go_sem, Nat.reduceDiv, Nat.reduceMod, ↓reduceIte, Nat.reduceEqDiff, Nat.reduceBEq, Nat.reduceSub, Nat.reduceLT, Nat.reduceAdd, Nat.reduceLeDiff, reduceCtorEq, Int.reduceEq, Int.reduceNe, Int.reduceLT, Int.reduceLE, Int.reduceToNat]
          exact ⟨⟨by omega, by omega, by omega, by omega⟩, rfl⟩
        | true =>
          rw [hri, Bool.true_and] at hs
          cases hbb : decide (bodyT ⟨o, kd, nm, gw, m⟩ = s) with
          | false =>
            rw [hbb] at hs
            unfold rpartR at hs
            simp only [Bool.false_eq_true, if_false] at hs
            injection hs with hs; subst hs
            simp only [b_rpart_1, t_rpart_0, r_rpart, phiRpart_1, phiRpart_2, phiRpart_3, phiRpart_4, phiRpart_5, phiRpart_6, phiRpart_7, rfrontS, rparseS, rguessS, wordS, hpT, tagPs, tag0, who0, rrtagS, rprtS, unV_U, c1, hri, hbb, go_sem, Nat.reduceDiv, Nat.reduceMod, ↓reduceIte, Nat.reduceEqDiff, Nat.reduceBEq, Nat.reduceSub, Nat.reduceLT, Nat.reduceAdd, Nat.reduceLeDiff, reduceCtorEq, Int.reduceEq, Int.reduceNe, Int.reduceLT, Int.reduceLE, Int.reduceToNat]
            exact ⟨⟨by omega, by omega, by omega, by omega⟩, ⟨hsz, hti⟩, rfl⟩
          | true =>
            rw [hbb] at hs
            unfold rpartR at hs
            simp only [if_true] at hs
            injection hs with hs; subst hs
            simp only [b_rpart_1, t_rpart_0, r_rpart, phiRpart_1, phiRpart_2, phiRpart_3, phiRpart_4, phiRpart_5, phiRpart_6, phiRpart_7, rfrontS, rparseS, rguessS, wordS, hpT, tagPs, tag0, who0, rrtagS, rprtS, unV_U, c1, hri, hbb, go_sem, Nat.reduceDiv, Nat.reduceMod, ↓reduceIte, Nat.reduceEqDiff, Nat.reduceBEq, Nat.reduceSub, Nat.reduceLT, Nat.reduceAdd, Nat.reduceLeDiff, reduceCtorEq, Int.reduceEq, Int.reduceNe, Int.reduceLT, Int.reduceLE, Int.reduceToNat]
            exact ⟨⟨by omega, by omega, by omega, by omega⟩, hsz, hti⟩
  · cases hs
end Go.Proofs.YtlkaaoekbmegkaaGreatDoor
namespace Go.Proofs.YtlkaaoekbmegkaaGreatDoor
set_option linter.all false
open Go.RowKit
open Go.Lib (itoa)
noncomputable def lparsesS : Spec := fun xs hp => match xs, hp with
  | [.sl 1 bs], [] => some ⟨.bool true, [], bs = Bs (unB bs) ∧ bs.length ≤ 9223372036854775807⟩
  | _, _ => none
noncomputable def phiParses : Phi := phiL [(21, [], cparS), (22, [], rparS), (23, [], cpartS), (24, [], rpartS), (8, [], lofS), (25, [], lofTagS), (13, [], rsameS), (11, [], knownS)]
theorem phiParses_ok : PhiOk Tryz.prog phiParses := phi_cons cpar_ok (by kernel_rfl) (phi_cons rpar_ok (by kernel_rfl) (phi_cons cpart_ok (by kernel_rfl) (phi_cons rpart_ok (by kernel_rfl) (phi_cons lof_ok (by kernel_rfl) (phi_cons lofTag_ok (by kernel_rfl) (phi_cons rsame_ok (by kernel_rfl) (phi_cons known11_ok (by kernel_rfl) phi_nil)))))))
theorem phiParses_1 : phiParses 21 = some ([], cparS) := rfl
theorem phiParses_2 : phiParses 22 = some ([], rparS) := rfl
theorem phiParses_3 : phiParses 23 = some ([], cpartS) := rfl
theorem phiParses_4 : phiParses 24 = some ([], rpartS) := rfl
theorem phiParses_5 : phiParses 8 = some ([], lofS) := rfl
theorem phiParses_6 : phiParses 25 = some ([], lofTagS) := rfl
theorem phiParses_7 : phiParses 13 = some ([], rsameS) := rfl
theorem phiParses_8 : phiParses 11 = some ([], knownS) := rfl
theorem par_cnt {s : List UInt8} (h : parB11 s = true) : (parC11 s).parents.length ≤ s.length ∧ (parC11 s).extras.length ≤ s.length := by
  obtain ⟨h1, h2⟩ := body_com h
  obtain ⟨h3, h4⟩ := parC11_len s
  have l1 := flat_par _ h4
  have l2 : (parC11 s).extras.length ≤ ((parC11 s).extras.flatMap exL).length := by
    generalize (parC11 s).extras = es
    induction es with
    | nil => simp
    | cons x es ih =>
      rw [List.flatMap_cons, List.length_append, List.length_cons]
      simp only [exL, List.length_append, List.length_cons, List.length_nil] at ih ⊢; omega
  have := congrArg List.length h2
  rw [bodyC_shape] at this
  simp only [List.length_append, List.length_cons] at this
  omega
theorem parR11_t {s : List UInt8} {c : ComL} (h : parB11 s = true) (hv : parC11 s = c) (pr : Prop) : parR11 (parC11 s) (parB11 s) pr =
    some ⟨.tup [.agg (comPs c.tree (.own 0 c.parents.length) c.author c.committer (.own 1 c.extras.length) c.message), .int .i64 0], [.row 29 20 c.parents.length (c.parents.map idAV), .row 75 2 c.extras.length (c.extras.map exV)], pr⟩ := by
  unfold parR11; rw [h, hv]; rfl
theorem parR11_f {s : List UInt8} (h : parB11 s = false) (pr : Prop) : parR11 (parC11 s) (parB11 s) pr = some ⟨.tup [.agg com0, .int .i64 4], [], pr⟩ := by
  unfold parR11; rw [h]; rfl
theorem rparR_t {s : List UInt8} {c : ComL} (h : parB11 s = true) (hv : parC11 s = c) (pr : Prop) : rparR (guessC s) (rightC (guessC s) && decide (bodyC (guessC s) = s)) pr =
    some ⟨.tup [.agg (comPs c.tree (.own 0 c.parents.length) c.author c.committer (.own 1 c.extras.length) c.message), .bool true], [.row 22 20 c.parents.length (c.parents.map idAV), .row 74 2 c.extras.length (c.extras.map exV)], pr⟩ := by
  unfold rparR; rw [← par_iff, h, par_eq h, hv]; rfl
theorem rparR_f {s : List UInt8} (h : parB11 s = false) (pr : Prop) : rparR (guessC s) (rightC (guessC s) && decide (bodyC (guessC s) = s)) pr = some ⟨.tup [.agg com0, .bool false], [], pr⟩ := by
  unfold rparR; rw [← par_iff, h]; rfl
theorem parRT11_f {s : List UInt8} (h : parBT11 s = false) (pr : Prop) : parRT11 (parT11 s) (parBT11 s) pr = some ⟨.tup [.agg tag0, .int .i64 4], [], pr⟩ := by
  unfold parRT11; rw [h]; rfl
theorem parRT11_t {s : List UInt8} {t : TagL} (h : parBT11 s = true) (hv : parT11 s = t) (pr : Prop) : parRT11 (parT11 s) (parBT11 s) pr = some ⟨.tup [.agg (tagPs t.object t.kind t.name t.tagger t.message), .int .i64 0], [], pr⟩ := by
  unfold parRT11; rw [h, hv]; rfl
theorem rpartR_t {s : List UInt8} {t : TagL} (h : parBT11 s = true) (hv : parT11 s = t) (pr : Prop) : rpartR (guessT (linesA [] s)) (decide (6 ≤ (linesA [] s).length) && (rightT (guessT (linesA [] s)) && decide (bodyT (guessT (linesA [] s)) = s))) pr = some ⟨.tup [.agg (tagPs t.object t.kind t.name t.tagger t.message), .bool true], [], pr⟩ := by
  unfold rpartR; rw [← part_iff, h, part_eq h, hv]; rfl
theorem rpartR_f {s : List UInt8} (h : parBT11 s = false) (pr : Prop) : rpartR (guessT (linesA [] s)) (decide (6 ≤ (linesA [] s).length) && (rightT (guessT (linesA [] s)) && decide (bodyT (guessT (linesA [] s)) = s))) pr = some ⟨.tup [.agg tag0, .bool false], [], pr⟩ := by
  unfold rpartR; rw [← part_iff, h]; rfl
set_option maxHeartbeats 8000000 in
set_option maxRecDepth 8000 in
theorem lparses_ok : FnOk Tryz.prog 5 lparsesS := by
  refine fn_slim2 Tryz.func5 s_lparses phiParses_ok ?_
  intro xs hp r hs hp'
  unfold lparsesS at hs
  split at hs
  · injection hs with hs; subst hs
    rename_i bs
    obtain ⟨q0, p1⟩ := hp'
    generalize unB bs = b at *
    subst q0
    rw [Bs_len] at p1
    refine ⟨len_le (by kernel_rfl), ?_⟩
    have tb := take_min b 2000
    have tb : b.take (min (b.length : Int) 2000).toNat = b.take 2000 := tb
    have htb : (Bs b).take (min (b.length : Int) 2000).toNat = Bs (b.take 2000) := by
      show (List.map ub b).take _ = _
      rw [← List.map_take, tb]; rfl
    have hl : (b.take 2000).length ≤ 2000 := by rw [List.length_take]; omega
    clear tb
    generalize b.take 2000 = s at *
    obtain ⟨c20, p20⟩ := parC11_len s
    have t20 := parT11_len s
    cases h1 : parB11 s with
    | true =>
      obtain ⟨n1, n2⟩ := par_cnt h1
      obtain ⟨c, hc⟩ : ∃ c, parC11 s = c := ⟨_, rfl⟩
      have e1 := parR11_t h1 hc
      have e2 := rparR_t h1 hc
      rw [hc] at c20 p20 n1 n2
      obtain ⟨ct, cp, ⟨can, cam, cat, caz⟩, ⟨ccn, ccm, cct, ccz⟩, ce, cm⟩ := c
      simp only at c20 p20 n1 n2 e1 e2
      cases h2 : parBT11 s with
      | true =>
        obtain ⟨u, hu⟩ : ∃ u, parT11 s = u := ⟨_, rfl⟩
        have e3 := parRT11_t h2 hu
        have e4 := rpartR_t h2 hu
        rw [hu] at t20
        obtain ⟨uo, uk, un, ⟨uwn, uwm, uwt, uwz⟩, um⟩ := u
        simp only at t20 e3 e4
        simp only [c_lparses, r_lparses, phiParses_1, phiParses_2, phiParses_3, phiParses_4, phiParses_5, phiParses_6, phiParses_7, phiParses_8, cparS, rparS, cpartS, rpartS, lofS, lofTagS, rsameS, knownS, htb, comOwn, comPs, com0, who0, tagPs, tag0, argC, unV_U, unId_map, unEx_map, unB_Bs, sameC_self, if_true, if_false, Bool.false_eq_true, ↓flat_id, ↓flat_exs, ↓flat_Bs, e1, e2, e3, e4, go_sem, Nat.reduceDiv, Nat.reduceMod, ↓reduceIte, Nat.reduceEqDiff, Nat.reduceBEq, Nat.reduceSub, Nat.reduceLT, Nat.reduceAdd, Nat.reduceLeDiff, reduceCtorEq, Int.reduceEq, Int.reduceNe, Int.reduceLT, Int.reduceLE, Int.reduceToNat]
        (repeat' apply And.intro); all_goals first | omega | exact .inl trivial | exact .inr trivial | exact .inr rfl | exact p20 | exact c20 | exact t20 | rfl | trivial | (intro p hp; cases hp; done) | skip
      | false =>
        have e3 := parRT11_f h2
        have e4 := rpartR_f h2
        simp only [c_lparses, r_lparses, phiParses_1, phiParses_2, phiParses_3, phiParses_4, phiParses_5, phiParses_6, phiParses_7, phiParses_8, cparS, rparS, cpartS, rpartS, lofS, lofTagS, rsameS, knownS, htb, comOwn, comPs, com0, who0, tagPs, tag0, argC, unV_U, unId_map, unEx_map, unB_Bs, sameC_self, if_true, if_false, Bool.false_eq_true, ↓flat_id, ↓flat_exs, ↓flat_Bs, e1, e2, e3, e4, go_sem, Nat.reduceDiv, Nat.reduceMod, ↓reduceIte, Nat.reduceEqDiff, Nat.reduceBEq, Nat.reduceSub, Nat.reduceLT, Nat.reduceAdd, Nat.reduceLeDiff, reduceCtorEq, Int.reduceEq, Int.reduceNe, Int.reduceLT, Int.reduceLE, Int.reduceToNat]
        (repeat' apply And.intro); all_goals first | omega | exact .inl trivial | exact .inr trivial | exact .inr rfl | exact p20 | exact c20 | exact t20 | rfl | trivial | (intro p hp; cases hp; done) | skip
    | false =>
      have e1 := parR11_f h1
      have e2 := rparR_f h1
      cases h2 : parBT11 s with
      | true =>
        obtain ⟨u, hu⟩ : ∃ u, parT11 s = u := ⟨_, rfl⟩
        have e3 := parRT11_t h2 hu
        have e4 := rpartR_t h2 hu
        rw [hu] at t20
        obtain ⟨uo, uk, un, ⟨uwn, uwm, uwt, uwz⟩, um⟩ := u
        simp only at t20 e3 e4
        simp only [c_lparses, r_lparses, phiParses_1, phiParses_2, phiParses_3, phiParses_4, phiParses_5, phiParses_6, phiParses_7, phiParses_8, cparS, rparS, cpartS, rpartS, lofS, lofTagS, rsameS, knownS, htb, comOwn, comPs, com0, who0, tagPs, tag0, argC, unV_U, unId_map, unEx_map, unB_Bs, sameC_self, if_true, if_false, Bool.false_eq_true, ↓flat_id, ↓flat_exs, ↓flat_Bs, e1, e2, e3, e4, go_sem, Nat.reduceDiv, Nat.reduceMod, ↓reduceIte, Nat.reduceEqDiff, Nat.reduceBEq, Nat.reduceSub, Nat.reduceLT, Nat.reduceAdd, Nat.reduceLeDiff, reduceCtorEq, Int.reduceEq, Int.reduceNe, Int.reduceLT, Int.reduceLE, Int.reduceToNat]
        (repeat' apply And.intro); all_goals first | omega | exact .inl trivial | exact .inr trivial | exact .inr rfl | exact p20 | exact c20 | exact t20 | rfl | trivial | (intro p hp; cases hp; done) | skip
      | false =>
        have e3 := parRT11_f h2
        have e4 := rpartR_f h2
        simp only [c_lparses, r_lparses, phiParses_1, phiParses_2, phiParses_3, phiParses_4, phiParses_5, phiParses_6, phiParses_7, phiParses_8, cparS, rparS, cpartS, rpartS, lofS, lofTagS, rsameS, knownS, htb, comOwn, comPs, com0, who0, tagPs, tag0, argC, unV_U, unId_map, unEx_map, unB_Bs, sameC_self, if_true, if_false, Bool.false_eq_true, ↓flat_id, ↓flat_exs, ↓flat_Bs, e1, e2, e3, e4, go_sem, Nat.reduceDiv, Nat.reduceMod, ↓reduceIte, Nat.reduceEqDiff, Nat.reduceBEq, Nat.reduceSub, Nat.reduceLT, Nat.reduceAdd, Nat.reduceLeDiff, reduceCtorEq, Int.reduceEq, Int.reduceNe, Int.reduceLT, Int.reduceLE, Int.reduceToNat]
        (repeat' apply And.intro); all_goals first | omega | exact .inl trivial | exact .inr trivial | exact .inr rfl | exact p20 | exact c20 | exact t20 | rfl | trivial | (intro p hp; cases hp; done) | skip
  · cases hs
theorem commitParses_walk {A0 : Option Addr} {n0 c0 : Nat} {l0 : List UInt8} (w : World) (w0 : Arg w A0 n0 c0 l0) (g : GlobOk w (fun b => b < w.heap.size)) :
    Calls Tryz.prog 5 #[.slice A0 n0 c0] w fun e w' => e = .returned (.bool true) ∧ Below w.heap.size w w' :=
  lparses_ok.calls_bool (xs := [.sl 1 (Bs l0)]) rfl ⟨by rw [unB_Bs], by rw [Bs_len]; have := w0.cap; have := w0.max; omega⟩ rfl (args_cons w0.vl (args_nil g))
end Go.Proofs.YtlkaaoekbmegkaaGreatDoor
