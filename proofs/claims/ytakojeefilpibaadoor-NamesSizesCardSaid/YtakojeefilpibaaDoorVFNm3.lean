import Derived.Test.YtakojeefilpibaaDoorVTxtLaw
import Derived.Test.YtakojeefilpibaaDoorVFNm1
import Derived.Test.YtakojeefilpibaaDoorVParse
namespace Go.Proofs.YtakojeefilpibaaDoor
set_option linter.all false
open Go.RowKit
open Go.Lib (index hasPrefix trimPrefix cut indexAny hasSuffix)
def nameR (s : List UInt8) : List UInt8 × Int := if rightP s = true then (if 255 < (nameL s).length then ([], 2) else (nameL s, 0)) else ([], 1)
def nnameS : Spec := fun xs hp => match xs, hp with
  | [.str s], [] => some ⟨.tup [.str (nameR s).1, .int .i64 (nameR s).2], [], s.length ≤ 1000000000⟩
  | _, _ => none
theorem joinW_L : ∀ l : List (List UInt8), joinW [47] l = joinL l
  | [] => rfl
  | [x] => by show x ++ [] = x; simp
  | x :: y :: r => by
    have ih := joinW_L (y :: r)
    rw [joinL_cons x (by simp), ← ih]; rfl
theorem sumL_join : ∀ l : List (List UInt8), sumL l ≤ (joinL l).length
  | [] => Nat.le_refl _
  | [x] => by simp [sumL, joinL]
  | x :: y :: r => by
    have ih := sumL_join (y :: r)
    rw [joinL_cons x (by simp)]
    have e : sumL (x :: y :: r) = x.length + sumL (y :: r) := by simp [sumL]
    rw [e, List.length_append, List.length_cons]; omega
theorem encPs_get : ∀ (L : List (List UInt8)) (i : Nat) (h : i < L.length), (encPs L)[i]? = some (if i + 1 < L.length then partL (hgL L[i]) else partL L[i])
  | [x], i, h => by
    obtain rfl : i = 0 := by simp at h; omega
    rfl
  | x :: y :: r, 0, h => by
    show some (partL (hgL x)) = _
    rw [if_pos (by simp)]; rfl
  | x :: y :: r, i + 1, h => by
    have ih := encPs_get (y :: r) i (by simpa using h)
    show (encPs (y :: r))[i]? = _
    rw [ih]
    simp only [List.length_cons, List.getElem_cons_succ, Nat.add_lt_add_iff_right]
def mixL (E L : List (List UInt8)) (i : Nat) : List (List UInt8) := E.take i ++ L.drop i
theorem mix_get {E L : List (List UInt8)} (hE : E.length = L.length) {i : Nat} (h : i < L.length) : (mixL E L i).getD i [] = L[i] := by
  unfold mixL
  rw [List.getD_eq_getElem?_getD, List.getElem?_append_right (by rw [List.length_take]; omega), List.length_take, Nat.min_eq_left (by omega), Nat.sub_self, List.getElem?_drop, Nat.add_zero, List.getElem?_eq_getElem h]; rfl
theorem mix_set {E L : List (List UInt8)} (hE : E.length = L.length) {i : Nat} (h : i < L.length) {x : List UInt8} (hx : E[i]? = some x) : ((mixL E L i).map AV.str).set i (.str x) = (mixL E L (i + 1)).map AV.str := by
  unfold mixL
  have hi : (E.take i).length = i := by rw [List.length_take]; omega
  rw [List.drop_eq_getElem_cons h, List.map_append, List.map_cons, List.set_append_right _ _ (by rw [List.length_map, hi]; exact Nat.le_refl _), List.length_map, hi, Nat.sub_self, List.set_cons_zero, List.take_add_one, hx]
  simp
theorem mix_len {E L : List (List UInt8)} (hE : E.length = L.length) {i : Nat} (h : i ≤ L.length) : (mixL E L i).length = L.length := by
  unfold mixL; rw [List.length_append, List.length_take, List.length_drop]; omega
def phiNN : Phi := phiL [(8, [], nrightS), (9, [], splitS), (10, [], hasSufS), (11, [], npartS), (12, [], joinS)]
theorem phiNN_ok : PhiOk Tryd.prog phiNN := phi_cons nright_ok (by kernel_rfl) (phi_cons split_ok (by kernel_rfl) (phi_cons hasSuf_ok (by kernel_rfl) (phi_cons npart_ok (by kernel_rfl) (phi_cons join_ok (by kernel_rfl) phi_nil))))
theorem phiNN_1 : phiNN 8 = some ([], nrightS) := rfl
theorem phiNN_2 : phiNN 9 = some ([], splitS) := rfl
theorem phiNN_3 : phiNN 10 = some ([], hasSufS) := rfl
theorem phiNN_4 : phiNN 11 = some ([], npartS) := rfl
theorem phiNN_5 : phiNN 12 = some ([], joinS) := rfl
theorem right_parts {s : List UInt8} (h : rightP s = true) : ∀ x ∈ psl 47 s, x ≠ [] := by
  unfold rightP at h
  simp only [Bool.and_eq_true, Bool.not_eq_true', List.any_eq_false] at h
  intro x hx e
  subst e
  exact absurd (h.2 [] hx) (by decide)
theorem psl_mem_len {s : List UInt8} : ∀ x ∈ psl 47 s, x.length ≤ s.length := fun x hx => by
  have h1 := sumL_join (psl 47 s)
  rw [join_psl] at h1
  have h2 : ∀ l : List (List UInt8), x ∈ l → x.length ≤ sumL l := by
    intro l
    induction l with
    | nil => intro h; cases h
    | cons y l ih =>
      intro h
      have e : sumL (y :: l) = y.length + sumL l := by simp [sumL]
      rcases List.mem_cons.1 h with rfl | h
      · omega
      · have := ih h; omega
  have := h2 _ hx; omega
theorem unS_strs (l : List (List UInt8)) : (l.map AV.str).map unS = l := by
  rw [List.map_map]
  exact List.map_id' _
set_option maxHeartbeats 4000000 in
theorem nname_ok : FnOk Tryd.prog 5 nnameS := by
  refine fn_slim2 Tryd.func5 s_nname phiNN_ok ?_
  intro xs hp r hs hp'
  unfold nnameS at hs
  split at hs
  · injection hs with hs; subst hs
    rename_i s
    have hp' : s.length ≤ 1000000000 := hp'
    refine ⟨len_le (by kernel_rfl), ?_⟩
    unfold nameR
    cases hr : rightP s with
    | false =>
      rw [if_neg Bool.false_ne_true]
      simp only [c_nname, r_nname, phiNN_1, nrightS, hr, go_sem, Nat.reduceDiv, Nat.reduceMod, ↓reduceIte, Nat.reduceEqDiff, Nat.reduceBEq, Nat.reduceSub, Nat.reduceLT, Nat.reduceAdd, Nat.reduceLeDiff, reduceCtorEq, Int.reduceEq, Int.reduceNe, Int.reduceLT, Int.reduceLE, Int.reduceToNat]
      (repeat' apply And.intro)
      all_goals first | exact True.intro | omega | rfl | skip
    | true =>
      rw [if_pos rfl]
      obtain ⟨h255, -, -⟩ := rightP_facts hr
      have hpl := psl_count s
      have hcl : s.count 47 ≤ s.length := List.count_le_length
      have hne := right_parts hr
      have hml := psl_mem_len (s := s)
      have hnl := psl_no 47 s
      have hL0 := psl_ne 47 s
      have hj := enc_join_len (psl 47 s) hL0
      rw [join_psl] at hj
      have hname : nameL s = dataW ++ (joinL (encPs (psl 47 s)) ++ iW) := rfl
      have hsum := sumL_join (encPs (psl 47 s))
      have hEl := encPs_length (psl 47 s)
      have hget := encPs_get (psl 47 s)
      have hs2 : s.length < 4294967281 := by omega
      simp only [c_nname, phiNN_1, phiNN_2, nrightS, splitS, hr, go_sem, Nat.reduceDiv, Nat.reduceMod, ↓reduceIte, Nat.reduceEqDiff, Nat.reduceBEq, Nat.reduceSub, Nat.reduceLT, Nat.reduceAdd, Nat.reduceLeDiff, reduceCtorEq, Int.reduceEq, Int.reduceNe, Int.reduceLT, Int.reduceLE, Int.reduceToNat]
      generalize psl 47 s = L at *
      have hLl : L.length ≤ 256 := by omega
      refine ⟨by omega, hs2, ?_⟩
      refine loop2P (m := 0) [] [4, 13, 14, 15] [0] (fun i : Nat => ⟨[(4, .own 0 0), (13, .own 0 0), (14, .int .i64 (L.length : Int)), (15, .int .i64 (i : Int))],
        [.row 9 1 0 ((mixL (encPs L) L i).map AV.str)]⟩)
        (fun i => i ≤ L.length) (fun i => L.length - i) 0 (by rfl) (Nat.zero_le _) ⟨rfl, by rfl⟩ (fun i hi R hR => ?_)
      have hmx := mix_len hEl hi
      by_cases hil : i < L.length
      · have c1 : decide ((i : Int) < (L.length : Int)) = true := decide_eq_true (by omega)
        have hgm := getD_map AV.str (mixL (encPs L) L i) [] (.str []) (i := i) (by omega)
        have hga := mix_get hEl hil
        have hst := mix_set hEl hil (hget i hil)
        have hx0 := hne L[i] (List.getElem_mem _)
        have hxl := hml L[i] (List.getElem_mem _)
        cases c2 : decide ((i : Int) < (L.length : Int) - 1) with
        | false =>
          have c2' := of_decide_eq_false c2
          rw [if_neg (by omega)] at hst
          simp only [b_nname_0, c1, c2, hgm, hga, hst, hmx, phiNN_4, npartS, Int.toNat_natCast, List.length_map, go_sem, Nat.reduceDiv, Nat.reduceMod, ↓reduceIte, Nat.reduceEqDiff, Nat.reduceBEq, Nat.reduceSub, Nat.reduceLT, Nat.reduceAdd, Nat.reduceLeDiff, reduceCtorEq, Int.reduceEq, Int.reduceNe, Int.reduceLT, Int.reduceLE, Int.reduceToNat]
          (repeat' apply And.intro); all_goals first | exact hx0 | omega | (simp only [List.length_append, List.length_cons, List.length_nil]; omega) | (simp; done) | (first | omega | (simp only [lenOk, bytesOk, inI, IntKind.bits, List.length_append, Bs_len, List.length_cons, List.length_nil, List.length_map, List.length_take, List.length_drop, List.length_replicate]; omega)) | exact hR _ (i + 1) hil (by omega) rfl | skip
        | true =>
          have c2' := of_decide_eq_true c2
          rw [if_pos (by omega)] at hst
          cases s1 : hasSuffix L[i] [46, 105] with
          | true =>
            have hh : hgL L[i] = L[i] ++ [46, 104, 103] := by unfold hgL hgE hgW; simp only [s1, Bool.or_true, Bool.true_or, Bool.or_false, if_true, if_false, Bool.false_eq_true]
            rw [hh] at hst
            simp only [b_nname_0, c1, c2, s1, hgm, hga, hst, hmx, phiNN_3, phiNN_4, hasSufS, npartS, Int.toNat_natCast, List.length_map, go_sem, Nat.reduceDiv, Nat.reduceMod, ↓reduceIte, Nat.reduceEqDiff, Nat.reduceBEq, Nat.reduceSub, Nat.reduceLT, Nat.reduceAdd, Nat.reduceLeDiff, reduceCtorEq, Int.reduceEq, Int.reduceNe, Int.reduceLT, Int.reduceLE, Int.reduceToNat]
            (repeat' apply And.intro); all_goals first | exact hx0 | omega | (simp only [List.length_append, List.length_cons, List.length_nil]; omega) | (simp; done) | (first | omega | (simp only [lenOk, bytesOk, inI, IntKind.bits, List.length_append, Bs_len, List.length_cons, List.length_nil, List.length_map, List.length_take, List.length_drop, List.length_replicate]; omega)) | exact hR _ (i + 1) hil (by omega) rfl | skip
          | false =>
            cases s2 : hasSuffix L[i] [46, 100] with
            | true =>
              have hh : hgL L[i] = L[i] ++ [46, 104, 103] := by unfold hgL hgE hgW; simp only [s1, s2, Bool.or_true, Bool.true_or, Bool.or_false, if_true, if_false, Bool.false_eq_true]
              rw [hh] at hst
              simp only [b_nname_0, c1, c2, s1, s2, hgm, hga, hst, hmx, phiNN_3, phiNN_4, hasSufS, npartS, Int.toNat_natCast, List.length_map, go_sem, Nat.reduceDiv, Nat.reduceMod, ↓reduceIte, Nat.reduceEqDiff, Nat.reduceBEq, Nat.reduceSub, Nat.reduceLT, Nat.reduceAdd, Nat.reduceLeDiff, reduceCtorEq, Int.reduceEq, Int.reduceNe, Int.reduceLT, Int.reduceLE, Int.reduceToNat]
              (repeat' apply And.intro); all_goals first | exact hx0 | omega | (simp only [List.length_append, List.length_cons, List.length_nil]; omega) | (simp; done) | (first | omega | (simp only [lenOk, bytesOk, inI, IntKind.bits, List.length_append, Bs_len, List.length_cons, List.length_nil, List.length_map, List.length_take, List.length_drop, List.length_replicate]; omega)) | exact hR _ (i + 1) hil (by omega) rfl | skip
            | false =>
              cases s3 : hasSuffix L[i] [46, 104, 103] with
              | true =>
                have hh : hgL L[i] = L[i] ++ [46, 104, 103] := by unfold hgL hgE hgW; simp only [s1, s2, s3, Bool.or_true, Bool.true_or, Bool.or_false, if_true, if_false, Bool.false_eq_true]
                rw [hh] at hst
                simp only [b_nname_0, c1, c2, s1, s2, s3, hgm, hga, hst, hmx, phiNN_3, phiNN_4, hasSufS, npartS, Int.toNat_natCast, List.length_map, go_sem, Nat.reduceDiv, Nat.reduceMod, ↓reduceIte, Nat.reduceEqDiff, Nat.reduceBEq, Nat.reduceSub, Nat.reduceLT, Nat.reduceAdd, Nat.reduceLeDiff, reduceCtorEq, Int.reduceEq, Int.reduceNe, Int.reduceLT, Int.reduceLE, Int.reduceToNat]
                (repeat' apply And.intro); all_goals first | exact hx0 | omega | (simp only [List.length_append, List.length_cons, List.length_nil]; omega) | (simp; done) | (first | omega | (simp only [lenOk, bytesOk, inI, IntKind.bits, List.length_append, Bs_len, List.length_cons, List.length_nil, List.length_map, List.length_take, List.length_drop, List.length_replicate]; omega)) | exact hR _ (i + 1) hil (by omega) rfl | skip
              | false =>
                have hh : hgL L[i] = L[i] := by unfold hgL hgE hgW; simp only [s1, s2, s3, Bool.or_true, Bool.true_or, Bool.or_false, if_true, if_false, Bool.false_eq_true]
                rw [hh] at hst
                simp only [b_nname_0, c1, c2, s1, s2, s3, hgm, hga, hst, hmx, phiNN_3, phiNN_4, hasSufS, npartS, Int.toNat_natCast, List.length_map, go_sem, Nat.reduceDiv, Nat.reduceMod, ↓reduceIte, Nat.reduceEqDiff, Nat.reduceBEq, Nat.reduceSub, Nat.reduceLT, Nat.reduceAdd, Nat.reduceLeDiff, reduceCtorEq, Int.reduceEq, Int.reduceNe, Int.reduceLT, Int.reduceLE, Int.reduceToNat]
                (repeat' apply And.intro); all_goals first | exact hx0 | omega | (simp only [List.length_append, List.length_cons, List.length_nil]; omega) | (simp; done) | (first | omega | (simp only [lenOk, bytesOk, inI, IntKind.bits, List.length_append, Bs_len, List.length_cons, List.length_nil, List.length_map, List.length_take, List.length_drop, List.length_replicate]; omega)) | exact hR _ (i + 1) hil (by omega) rfl | skip
      · have c1 : decide ((i : Int) < (L.length : Int)) = false := decide_eq_false (by omega)
        obtain rfl : i = L.length := by omega
        have hmE : mixL (encPs L) L L.length = encPs L := by
          unfold mixL
          rw [List.drop_length, List.append_nil, List.take_of_length_le (by omega)]
        rw [hmE]
        have hlen : (joinL (encPs L) ++ [46, 105]).length + 1 + 1 + 1 + 1 + 1 = (nameL s).length := by rw [hname]; rfl
        have hlen2 : (joinL (encPs L)).length + 7 = (nameL s).length := by rw [← hlen, List.length_append]; rfl
        simp only [b_nname_0, t_nname_0, r_nname, c1, phiNN_5, joinS, unS_strs, joinW_L, hlen, go_sem, Nat.reduceDiv, Nat.reduceMod, ↓reduceIte, Nat.reduceEqDiff, Nat.reduceBEq, Nat.reduceSub, Nat.reduceLT, Nat.reduceAdd, Nat.reduceLeDiff, reduceCtorEq, Int.reduceEq, Int.reduceNe, Int.reduceLT, Int.reduceLE, Int.reduceToNat]
        refine ⟨⟨.inl trivial, by omega, by omega⟩, by (first | omega | (simp only [lenOk, bytesOk, inI, IntKind.bits, List.length_append, Bs_len, List.length_cons, List.length_nil, List.length_map, List.length_take, List.length_drop, List.length_replicate]; omega)), by (first | omega | (simp only [lenOk, bytesOk, inI, IntKind.bits, List.length_append, Bs_len, List.length_cons, List.length_nil, List.length_map, List.length_take, List.length_drop, List.length_replicate]; omega)), fun h => ?_, fun h => ?_⟩
        · have h := of_decide_eq_true h
          rw [if_pos (by omega)]
        · have h := of_decide_eq_false h
          rw [if_neg (by omega), hname]; rfl
  · cases hs
end Go.Proofs.YtakojeefilpibaaDoor
namespace Go.Proofs.YtakojeefilpibaaDoor
set_option linter.all false
open Go.RowKit
open Go.Lib (index hasPrefix trimPrefix cut indexAny hasSuffix)
theorem drop_at {s : List UInt8} {i : Nat} (h : i < s.length) : s.drop i = s.getD i 0 :: s.drop (i + 1) := by
  rw [List.drop_eq_getElem_cons h]; simp [List.getD_eq_getElem?_getD, List.getElem?_eq_getElem h]
theorem back_A {s : List UInt8} {i : Nat} (h : i + 1 < s.length) (hc : s.getD i 0 = 95) (hd : s.getD (i + 1) 0 = 95) : backL (s.drop i) = 95 :: backL (s.drop (i + 2)) := by
  rw [drop_at (by omega : i < s.length), drop_at h, hc, hd, backL.eq_def]; simp only [if_true]
theorem back_B {s : List UInt8} {i : Nat} (h : i + 1 < s.length) (hc : s.getD i 0 = 95) (hd : 97 ≤ (s.getD (i + 1) 0).toNat ∧ (s.getD (i + 1) 0).toNat ≤ 122) : backL (s.drop i) = UInt8.ofNat ((s.getD (i + 1) 0).toNat - 32) :: backL (s.drop (i + 2)) := by
  have hne : s.getD (i + 1) 0 ≠ 95 := fun e => by rw [e] at hd; simp at hd
  rw [drop_at (by omega : i < s.length), drop_at h, hc, backL.eq_def]
  simp only [if_true, if_neg hne, if_pos hd]
theorem back_C {s : List UInt8} {i : Nat} (h : i + 2 < s.length) (hc : s.getD i 0 = 126) : backL (s.drop i) = UInt8.ofNat (16 * hvd (s.getD (i + 1) 0) + hvd (s.getD (i + 2) 0)) :: backL (s.drop (i + 3)) := by
  rw [drop_at (by omega : i < s.length), drop_at (by omega : i + 1 < s.length), drop_at h, hc, backL.eq_def]
  simp only [if_neg (by decide : ¬ (126 : UInt8) = 95), if_true]
theorem back_D {s : List UInt8} {i : Nat} (h : i < s.length) (h1 : ¬ (s.getD i 0 = 95 ∧ i + 1 < s.length ∧ (s.getD (i + 1) 0 = 95 ∨ (97 ≤ (s.getD (i + 1) 0).toNat ∧ (s.getD (i + 1) 0).toNat ≤ 122)))) (h2 : ¬ (s.getD i 0 = 126 ∧ i + 2 < s.length)) : backL (s.drop i) = s.getD i 0 :: backL (s.drop (i + 1)) := by
  rw [drop_at h]
  by_cases hc : s.getD i 0 = 95
  · rw [hc]
    by_cases hn : i + 1 < s.length
    · have hx : ¬ (s.getD (i + 1) 0 = 95 ∨ (97 ≤ (s.getD (i + 1) 0).toNat ∧ (s.getD (i + 1) 0).toNat ≤ 122)) := fun e => h1 ⟨hc, hn, e⟩
      rw [drop_at hn, backL.eq_def]
      simp only [if_true, if_neg (fun e => hx (.inl e)), if_neg (fun e => hx (.inr e))]
    · rw [List.drop_eq_nil_of_le (by omega)]; rfl
  · by_cases hc2 : s.getD i 0 = 126
    · have hn : ¬ i + 2 < s.length := fun e => h2 ⟨hc2, e⟩
      rw [hc2]
      by_cases hn1 : i + 1 < s.length
      · rw [drop_at hn1, List.drop_eq_nil_of_le (by omega)]
        rw [backL.eq_def]
        simp only [if_neg (by decide : ¬ (126 : UInt8) = 95), if_true]
      · rw [List.drop_eq_nil_of_le (by omega)]; rfl
    · rw [backL.eq_def]
      simp only [if_neg hc, if_neg hc2]
def nbackS : Spec := fun xs hp => match xs, hp with
  | [.str s], [] => some ⟨.str (backL s), [], s.length ≤ 1000000000⟩
  | _, _ => none
theorem or16 : ∀ a : Nat, a < 16 → ∀ b : Nat, b < 16 → bits BinOp.or IntKind.i64 ((a * 16 : Nat) : Int) (b : Int) = ((16 * a + b : Nat) : Int) := by decide +kernel
theorem hvd_lt (c : UInt8) : hvd c < 16 := by
  have : ∀ k : Nat, k < 256 → hvd (UInt8.ofNat k) < 16 := by decide +kernel
  have h := this c.toNat c.toNat_lt
  simpa using h
theorem hvd_max (c : UInt8) : max (Go.Lib.indexByte digs c) 0 = (hvd c : Int) := by unfold hvd; omega
def phiNB : Phi := phiL [(31, [], idxByteS)]
theorem phiNB_ok : PhiOk Tryd.prog phiNB := phi_cons idxByte_ok (by kernel_rfl) phi_nil
theorem phiNB_1 : phiNB 31 = some ([], idxByteS) := rfl
set_option maxHeartbeats 4000000 in
theorem nback_ok : FnOk Tryd.prog 15 nbackS := by
  refine fn_slim2 Tryd.func15 s_nback phiNB_ok ?_
  intro xs hp r hs hp'
  unfold nbackS at hs
  split at hs
  · injection hs with hs; subst hs
    rename_i s
    have hp' : s.length ≤ 1000000000 := hp'
    refine ⟨len_le (by kernel_rfl), ?_⟩
    simp only [c_nback, go_sem, Nat.reduceDiv, Nat.reduceMod, ↓reduceIte, Nat.reduceEqDiff, Nat.reduceBEq, Nat.reduceSub, Nat.reduceLT, Nat.reduceAdd, Nat.reduceLeDiff, reduceCtorEq, Int.reduceEq, Int.reduceNe, Int.reduceLT, Int.reduceLE, Int.reduceToNat]
    refine loop2P (m := 0) [(3, 5, 1)] [0, 3, 4] [0] (fun a : Nat × List UInt8 => ⟨[(0, .str s), (3, .own 0 a.2.length), (4, .int .i64 (a.1 : Int))], [.row 5 1 a.2.length (Bs a.2)]⟩)
      (fun a => a.1 ≤ s.length ∧ a.2.length ≤ a.1 ∧ a.2 ++ backL (s.drop a.1) = backL s) (fun a => s.length - a.1) (0, []) (by rfl) ⟨Nat.zero_le _, Nat.zero_le _, rfl⟩ ⟨rfl, by rfl⟩ (fun a hi R hR => ?_)
    obtain ⟨i, acc⟩ := a
    obtain ⟨i1, i2, i3⟩ := hi
    simp only at i1 i2 i3
    by_cases hil : i < s.length
    · have c1 : decide ((i : Int) < (s.length : Int)) = true := decide_eq_true (by omega)
      have e1 : ((i : Int) + 1).toNat = i + 1 := by omega
      have e2 : ((i : Int) + 2).toNat = i + 2 := by omega
      have q1 := at8_eq s i 95
      have q2 := at8_eq s (i + 1) 95
      have q3 := at8_eq s i 126
      rw [show ((95 : UInt8).toNat : Int) = 95 from rfl] at q1 q2
      rw [show ((126 : UInt8).toNat : Int) = 126 from rfl] at q3
      have hlen : ∀ x, (Bs acc ++ [x]).length = acc.length + 1 := fun x => by rw [List.length_append, Bs_len]; rfl
      cases g1 : decide (s.getD i 0 = 95) with
      | true =>
        have g1' := of_decide_eq_true g1
        have g3 : decide (s.getD i 0 = 126) = false := by rw [g1']; rfl
        have g3' := of_decide_eq_false g3
        cases n1 : decide ((i : Int) + 1 < (s.length : Int)) with
        | false =>
          have n1' := of_decide_eq_false n1
          have hb := back_D hil (fun e => n1' (by have := e.2.1; omega)) (fun e => g3' e.1)
          simp only [b_nback_0, c1, e1, e2, q1, q2, q3, g1, g3, n1, Int.toNat_natCast, go_sem, Nat.reduceDiv, Nat.reduceMod, ↓reduceIte, Nat.reduceEqDiff, Nat.reduceBEq, Nat.reduceSub, Nat.reduceLT, Nat.reduceAdd, Nat.reduceLeDiff, reduceCtorEq, Int.reduceEq, Int.reduceNe, Int.reduceLT, Int.reduceLE, Int.reduceToNat]
          (repeat' apply And.intro); all_goals first | omega | (rw [hlen]; (first | omega | (simp only [lenOk, bytesOk, inI, IntKind.bits, List.length_append, Bs_len, List.length_cons, List.length_nil, List.length_map, List.length_take, List.length_drop, List.length_replicate]; omega))) | (rw [hlen]; simp only [bytesOk]; omega) | (simp only [inI]; omega) | skip
          exact hR _ (i + 1, acc ++ [s.getD i 0]) ⟨hil, by simp; omega, by rw [← i3, hb]; simp⟩ (by simp only; omega) (by simp only [List.length_append, Bs_append, List.length_singleton]; rfl)
        | true =>
          have n1' := of_decide_eq_true n1
          cases g2 : decide (s.getD (i + 1) 0 = 95) with
          | true =>
            have g2' := of_decide_eq_true g2
            have hb := back_A (by omega) g1' g2'
            simp only [b_nback_0, c1, e1, e2, q1, q2, q3, g1, g3, n1, g2, Int.toNat_natCast, go_sem, Nat.reduceDiv, Nat.reduceMod, ↓reduceIte, Nat.reduceEqDiff, Nat.reduceBEq, Nat.reduceSub, Nat.reduceLT, Nat.reduceAdd, Nat.reduceLeDiff, reduceCtorEq, Int.reduceEq, Int.reduceNe, Int.reduceLT, Int.reduceLE, Int.reduceToNat]
            (repeat' apply And.intro); all_goals first | omega | (rw [hlen]; (first | omega | (simp only [lenOk, bytesOk, inI, IntKind.bits, List.length_append, Bs_len, List.length_cons, List.length_nil, List.length_map, List.length_take, List.length_drop, List.length_replicate]; omega))) | (rw [hlen]; simp only [bytesOk]; omega) | (simp only [inI]; omega) | skip
            exact hR _ (i + 1 + 1, acc ++ [95]) ⟨by simp only; omega, by simp; omega, by rw [← i3, hb]; simp⟩ (by simp only; omega) (by simp only [List.length_append, Bs_append, List.length_singleton]; rfl)
          | false =>
            have g2' := of_decide_eq_false g2
            have hat : at8 s (i + 1) = ((s.getD (i + 1) 0).toNat : Int) := rfl
            cases a1 : decide (97 ≤ at8 s (i + 1)) with
            | false =>
              have a1' := of_decide_eq_false a1
              have hb := back_D hil (fun e => e.2.2.elim g2' (fun h => a1' (by omega))) (fun e => g3' e.1)
              simp only [b_nback_0, c1, e1, e2, q1, q2, q3, g1, g3, n1, g2, a1, Int.toNat_natCast, go_sem, Nat.reduceDiv, Nat.reduceMod, ↓reduceIte, Nat.reduceEqDiff, Nat.reduceBEq, Nat.reduceSub, Nat.reduceLT, Nat.reduceAdd, Nat.reduceLeDiff, reduceCtorEq, Int.reduceEq, Int.reduceNe, Int.reduceLT, Int.reduceLE, Int.reduceToNat]
              (repeat' apply And.intro); all_goals first | omega | (rw [hlen]; (first | omega | (simp only [lenOk, bytesOk, inI, IntKind.bits, List.length_append, Bs_len, List.length_cons, List.length_nil, List.length_map, List.length_take, List.length_drop, List.length_replicate]; omega))) | (rw [hlen]; simp only [bytesOk]; omega) | (simp only [inI]; omega) | skip
              exact hR _ (i + 1, acc ++ [s.getD i 0]) ⟨hil, by simp; omega, by rw [← i3, hb]; simp⟩ (by simp only; omega) (by simp only [List.length_append, Bs_append, List.length_singleton]; rfl)
            | true =>
              have a1' := of_decide_eq_true a1
              cases a2 : decide (at8 s (i + 1) ≤ 122) with
              | false =>
                have a2' := of_decide_eq_false a2
                have hb := back_D hil (fun e => e.2.2.elim g2' (fun h => a2' (by omega))) (fun e => g3' e.1)
                simp only [b_nback_0, c1, e1, e2, q1, q2, q3, g1, g3, n1, g2, a1, a2, Int.toNat_natCast, go_sem, Nat.reduceDiv, Nat.reduceMod, ↓reduceIte, Nat.reduceEqDiff, Nat.reduceBEq, Nat.reduceSub, Nat.reduceLT, Nat.reduceAdd, Nat.reduceLeDiff, reduceCtorEq, Int.reduceEq, Int.reduceNe, Int.reduceLT, Int.reduceLE, Int.reduceToNat]
                (repeat' apply And.intro); all_goals first | omega | (rw [hlen]; (first | omega | (simp only [lenOk, bytesOk, inI, IntKind.bits, List.length_append, Bs_len, List.length_cons, List.length_nil, List.length_map, List.length_take, List.length_drop, List.length_replicate]; omega))) | (rw [hlen]; simp only [bytesOk]; omega) | (simp only [inI]; omega) | skip
                exact hR _ (i + 1, acc ++ [s.getD i 0]) ⟨hil, by simp; omega, by rw [← i3, hb]; simp⟩ (by simp only; omega) (by simp only [List.length_append, Bs_append, List.length_singleton]; rfl)
              | true =>
                have a2' := of_decide_eq_true a2
                have hb := back_B (by omega) g1' ⟨by omega, by omega⟩
                have hw : IntKind.u8.wrap (at8 s (i + 1) - 32) = ((UInt8.ofNat ((s.getD (i + 1) 0).toNat - 32)).toNat : Int) := by rw [IntKind.wrap_u8', hat, UInt8.toNat_ofNat']; omega
                simp only [b_nback_0, c1, e1, e2, q1, q2, q3, g1, g3, n1, g2, a1, a2, hw, Int.toNat_natCast, go_sem, Nat.reduceDiv, Nat.reduceMod, ↓reduceIte, Nat.reduceEqDiff, Nat.reduceBEq, Nat.reduceSub, Nat.reduceLT, Nat.reduceAdd, Nat.reduceLeDiff, reduceCtorEq, Int.reduceEq, Int.reduceNe, Int.reduceLT, Int.reduceLE, Int.reduceToNat]
                (repeat' apply And.intro); all_goals first | omega | (rw [hlen]; (first | omega | (simp only [lenOk, bytesOk, inI, IntKind.bits, List.length_append, Bs_len, List.length_cons, List.length_nil, List.length_map, List.length_take, List.length_drop, List.length_replicate]; omega))) | (rw [hlen]; simp only [bytesOk]; omega) | (simp only [inI]; omega) | skip
                exact hR _ (i + 1 + 1, acc ++ [UInt8.ofNat ((s.getD (i + 1) 0).toNat - 32)]) ⟨by simp only; omega, by simp; omega, by rw [← i3, hb]; simp⟩ (by simp only; omega) (by simp only [List.length_append, Bs_append, List.length_singleton]; rfl)
      | false =>
        have g1' := of_decide_eq_false g1
        cases g3 : decide (s.getD i 0 = 126) with
        | true =>
          have g3' := of_decide_eq_true g3
          cases n2 : decide ((i : Int) + 2 < (s.length : Int)) with
          | false =>
            have n2' := of_decide_eq_false n2
            have hb := back_D hil (fun e => g1' e.1) (fun e => n2' (by have := e.2; omega))
            simp only [b_nback_0, c1, e1, e2, q1, q2, q3, g1, g3, n2, Int.toNat_natCast, go_sem, Nat.reduceDiv, Nat.reduceMod, ↓reduceIte, Nat.reduceEqDiff, Nat.reduceBEq, Nat.reduceSub, Nat.reduceLT, Nat.reduceAdd, Nat.reduceLeDiff, reduceCtorEq, Int.reduceEq, Int.reduceNe, Int.reduceLT, Int.reduceLE, Int.reduceToNat]
            (repeat' apply And.intro); all_goals first | omega | (rw [hlen]; (first | omega | (simp only [lenOk, bytesOk, inI, IntKind.bits, List.length_append, Bs_len, List.length_cons, List.length_nil, List.length_map, List.length_take, List.length_drop, List.length_replicate]; omega))) | (rw [hlen]; simp only [bytesOk]; omega) | (simp only [inI]; omega) | skip
            exact hR _ (i + 1, acc ++ [s.getD i 0]) ⟨hil, by simp; omega, by rw [← i3, hb]; simp⟩ (by simp only; omega) (by simp only [List.length_append, Bs_append, List.length_singleton]; rfl)
          | true =>
            have n2' := of_decide_eq_true n2
            have hb := back_C (by omega) g3'
            have hx1 : max (Go.Lib.indexByte [48, 49, 50, 51, 52, 53, 54, 55, 56, 57, 97, 98, 99, 100, 101, 102] (at8 s (i + 1)).toNat.toUInt8) 0 = ((hvd (s.getD (i + 1) 0) : Nat) : Int) := by
              rw [show (at8 s (i + 1)).toNat.toUInt8 = s.getD (i + 1) 0 from ofNat_at8 s _]; exact hvd_max _
            have hx2 : max (Go.Lib.indexByte [48, 49, 50, 51, 52, 53, 54, 55, 56, 57, 97, 98, 99, 100, 101, 102] (at8 s (i + 2)).toNat.toUInt8) 0 = ((hvd (s.getD (i + 2) 0) : Nat) : Int) := by
              rw [show (at8 s (i + 2)).toNat.toUInt8 = s.getD (i + 2) 0 from ofNat_at8 s _]; exact hvd_max _
            have l1 := hvd_lt (s.getD (i + 1) 0)
            have l2 := hvd_lt (s.getD (i + 2) 0)
            have h16 : ((hvd (s.getD (i + 1) 0) : Nat) : Int) * 2 ^ 4 = ((hvd (s.getD (i + 1) 0) * 16 : Nat) : Int) := by omega
            have hor := or16 _ l1 _ l2
            have hw : IntKind.u8.wrap ((16 * hvd (s.getD (i + 1) 0) + hvd (s.getD (i + 2) 0) : Nat) : Int) = ((UInt8.ofNat (16 * hvd (s.getD (i + 1) 0) + hvd (s.getD (i + 2) 0))).toNat : Int) := by rw [IntKind.wrap_u8', UInt8.toNat_ofNat']; omega
            simp only [b_nback_0, c1, e1, e2, q1, q2, q3, g1, g3, n2, hx1, hx2, h16, hor, hw, phiNB_1, idxByteS, Int.toNat_natCast, go_sem, Nat.reduceDiv, Nat.reduceMod, ↓reduceIte, Nat.reduceEqDiff, Nat.reduceBEq, Nat.reduceSub, Nat.reduceLT, Nat.reduceAdd, Nat.reduceLeDiff, reduceCtorEq, Int.reduceEq, Int.reduceNe, Int.reduceLT, Int.reduceLE, Int.reduceToNat]
            (repeat' apply And.intro); all_goals first | omega | (rw [hlen]; (first | omega | (simp only [lenOk, bytesOk, inI, IntKind.bits, List.length_append, Bs_len, List.length_cons, List.length_nil, List.length_map, List.length_take, List.length_drop, List.length_replicate]; omega))) | (rw [hlen]; simp only [bytesOk]; omega) | (simp only [inI]; omega) | skip
            exact hR _ (i + 2 + 1, acc ++ [UInt8.ofNat (16 * hvd (s.getD (i + 1) 0) + hvd (s.getD (i + 2) 0))]) ⟨by simp only; omega, by simp; omega, by rw [← i3, hb]; simp⟩ (by simp only; omega) (by simp only [List.length_append, Bs_append, List.length_singleton]; rfl)
        | false =>
          have g3' := of_decide_eq_false g3
          have hb := back_D hil (fun e => g1' e.1) (fun e => g3' e.1)
          simp only [b_nback_0, c1, e1, e2, q1, q2, q3, g1, g3, Int.toNat_natCast, go_sem, Nat.reduceDiv, Nat.reduceMod, ↓reduceIte, Nat.reduceEqDiff, Nat.reduceBEq, Nat.reduceSub, Nat.reduceLT, Nat.reduceAdd, Nat.reduceLeDiff, reduceCtorEq, Int.reduceEq, Int.reduceNe, Int.reduceLT, Int.reduceLE, Int.reduceToNat]
          (repeat' apply And.intro); all_goals first | omega | (rw [hlen]; (first | omega | (simp only [lenOk, bytesOk, inI, IntKind.bits, List.length_append, Bs_len, List.length_cons, List.length_nil, List.length_map, List.length_take, List.length_drop, List.length_replicate]; omega))) | (rw [hlen]; simp only [bytesOk]; omega) | (simp only [inI]; omega) | skip
          exact hR _ (i + 1, acc ++ [s.getD i 0]) ⟨hil, by simp; omega, by rw [← i3, hb]; simp⟩ (by simp only; omega) (by simp only [List.length_append, Bs_append, List.length_singleton]; rfl)
    · have c1 : decide ((i : Int) < (s.length : Int)) = false := decide_eq_false (by omega)
      rw [List.drop_eq_nil_of_le (by omega)] at i3
      have e : acc = backL s := by rw [← i3]; show acc = acc ++ []; simp
      simp only [b_nback_0, t_nback_0, r_nback, c1, unB_Bs, e, go_sem, Nat.reduceDiv, Nat.reduceMod, ↓reduceIte, Nat.reduceEqDiff, Nat.reduceBEq, Nat.reduceSub, Nat.reduceLT, Nat.reduceAdd, Nat.reduceLeDiff, reduceCtorEq, Int.reduceEq, Int.reduceNe, Int.reduceLT, Int.reduceLE, Int.reduceToNat]
  · cases hs
end Go.Proofs.YtakojeefilpibaaDoor
namespace Go.Proofs.YtakojeefilpibaaDoor
set_option linter.all false
open Go.RowKit
open Go.Lib (index hasPrefix trimPrefix cut indexAny hasSuffix trimSuffix)
def midN (n : List UInt8) : List UInt8 := trimSuffix (trimPrefix n dataW) iW
def pathR (n : List UInt8) : List UInt8 × Int := if hasPrefix n dataW = true ∧ hasSuffix (trimPrefix n dataW) iW = true ∧ nameR (unmid (midN n)) = (n, 0) then (unmid (midN n), 0) else ([], 4)
def npathS : Spec := fun xs hp => match xs, hp with
  | [.str n], [] => some ⟨.tup [.str (pathR n).1, .int .i64 (pathR n).2], [], n.length ≤ 900000⟩
  | _, _ => none
theorem decPs_get : ∀ (L : List (List UInt8)) (i : Nat) (h : i < L.length), (decPs L)[i]? = some (if i + 1 < L.length then unhg (backL L[i]) else backL L[i])
  | [x], i, h => by
    obtain rfl : i = 0 := by simp at h; omega
    rfl
  | x :: y :: r, 0, h => by
    show some (unhg (backL x)) = _
    rw [if_pos (by simp)]; rfl
  | x :: y :: r, i + 1, h => by
    have ih := decPs_get (y :: r) i (by simpa using h)
    show (decPs (y :: r))[i]? = _
    rw [ih]
    simp only [List.length_cons, List.getElem_cons_succ, Nat.add_lt_add_iff_right]
theorem decPs_length : ∀ l : List (List UInt8), (decPs l).length = l.length
  | [] => rfl
  | [_] => rfl
  | x :: y :: r => by
    show (decPs (y :: r)).length + 1 = _
    rw [decPs_length (y :: r)]; rfl
theorem back_drop_len (s : List UInt8) : ∀ k i, s.length - i ≤ k → i ≤ s.length → (backL (s.drop i)).length ≤ s.length - i
  | 0, i, hk, hi => by rw [List.drop_eq_nil_of_le (by omega)]; exact Nat.zero_le _
  | k + 1, i, hk, hi => by
    by_cases hl : i < s.length
    · by_cases h1 : s.getD i 0 = 95 ∧ i + 1 < s.length ∧ (s.getD (i + 1) 0 = 95 ∨ (97 ≤ (s.getD (i + 1) 0).toNat ∧ (s.getD (i + 1) 0).toNat ≤ 122))
      · have ih := back_drop_len s k (i + 2) (by omega) (by omega)
        rcases h1.2.2 with h | h
        · rw [back_A h1.2.1 h1.1 h, List.length_cons]; omega
        · rw [back_B h1.2.1 h1.1 h, List.length_cons]; omega
      · by_cases h2 : s.getD i 0 = 126 ∧ i + 2 < s.length
        · have ih := back_drop_len s k (i + 3) (by omega) (by omega)
          rw [back_C h2.2 h2.1, List.length_cons]; omega
        · have ih := back_drop_len s k (i + 1) (by omega) (by omega)
          rw [back_D hl h1 h2, List.length_cons]; omega
    · rw [List.drop_eq_nil_of_le (by omega)]; exact Nat.zero_le _
theorem backL_len (s : List UInt8) : (backL s).length ≤ s.length := back_drop_len s s.length 0 (by omega) (by omega)
theorem unhg_len (x : List UInt8) : (unhg x).length ≤ x.length := by unfold unhg; split <;> simp <;> omega
theorem dec_join_len : ∀ l : List (List UInt8), l ≠ [] → (joinL (decPs l)).length ≤ (joinL l).length
  | [], h => absurd rfl h
  | [x], _ => backL_len x
  | x :: y :: r, _ => by
    have ih := dec_join_len (y :: r) (by simp)
    have h1 := unhg_len (backL x)
    have h2 := backL_len x
    have hne : decPs (y :: r) ≠ [] := fun e => by have := congrArg List.length e; rw [decPs_length] at this; simp at this
    have e1 : joinL (decPs (x :: y :: r)) = unhg (backL x) ++ 47 :: joinL (decPs (y :: r)) := joinL_cons _ hne
    have e2 : joinL (x :: y :: r) = x ++ 47 :: joinL (y :: r) := rfl
    rw [e1, e2, List.length_append, List.length_append, List.length_cons, List.length_cons]; omega
def phiPT : Phi := phiL [(13, [], cutPreS), (14, [], cutSufS), (9, [], splitS), (15, [], nbackS), (10, [], hasSufS), (16, [], trimSufS), (12, [], joinS), (5, [], nnameS)]
theorem phiPT_ok : PhiOk Tryd.prog phiPT := phi_cons cutPre_ok (by kernel_rfl) (phi_cons cutSuf_ok (by kernel_rfl) (phi_cons split_ok (by kernel_rfl) (phi_cons nback_ok (by kernel_rfl) (phi_cons hasSuf_ok (by kernel_rfl) (phi_cons trimSuf_ok (by kernel_rfl) (phi_cons join_ok (by kernel_rfl) (phi_cons nname_ok (by kernel_rfl) phi_nil)))))))
theorem phiPT_1 : phiPT 13 = some ([], cutPreS) := rfl
theorem phiPT_2 : phiPT 14 = some ([], cutSufS) := rfl
theorem phiPT_3 : phiPT 9 = some ([], splitS) := rfl
theorem phiPT_4 : phiPT 15 = some ([], nbackS) := rfl
theorem phiPT_5 : phiPT 10 = some ([], hasSufS) := rfl
theorem phiPT_6 : phiPT 16 = some ([], trimSufS) := rfl
theorem phiPT_7 : phiPT 12 = some ([], joinS) := rfl
theorem phiPT_8 : phiPT 5 = some ([], nnameS) := rfl
theorem trimP_len (s p : List UInt8) : (trimPrefix s p).length ≤ s.length := by unfold trimPrefix; split <;> simp
def endsW : List (List UInt8) := [[46, 105, 46, 104, 103], [46, 100, 46, 104, 103], [46, 104, 103, 46, 104, 103]]
theorem unhg_hit {x : List UInt8} {j : Nat} (hj : j < 3) (h : hasSuffix x (endsW.getD j []) = true) : unhg x = trimSuffix x [46, 104, 103] := by
  have hs : hasSuffix x hgW = true := by
    match j, hj, h with
    | 0, _, h => exact suf_more (e := [46, 105]) h
    | 1, _, h => exact suf_more (e := [46, 100]) h
    | 2, _, h => exact suf_more (e := hgW) h
  have hu : hgU x = true := by
    unfold hgU
    match j, hj, h with
    | 0, _, h => rw [show hasSuffix x [46, 105, 46, 104, 103] = true from h]; rfl
    | 1, _, h => rw [show hasSuffix x [46, 100, 46, 104, 103] = true from h, Bool.or_true]; rfl
    | 2, _, h => rw [show hasSuffix x [46, 104, 103, 46, 104, 103] = true from h, Bool.or_true]
  unfold unhg trimSuffix
  rw [if_pos hu, show hasSuffix x [46, 104, 103] = true from hs, if_pos rfl]; rfl
theorem unhg_miss {x : List UInt8} (h : ∀ j, j < 3 → hasSuffix x (endsW.getD j []) = false) : unhg x = x := by
  have hu : hgU x = false := by
    unfold hgU
    rw [show hasSuffix x [46, 105, 46, 104, 103] = false from h 0 (by omega), show hasSuffix x [46, 100, 46, 104, 103] = false from h 1 (by omega), show hasSuffix x [46, 104, 103, 46, 104, 103] = false from h 2 (by omega)]; rfl
  unfold unhg
  rw [hu, if_neg Bool.false_ne_true]
set_option maxHeartbeats 8000000 in
theorem npath_ok : FnOk Tryd.prog 7 npathS := by
  refine fn_slim2 Tryd.func7 s_npath phiPT_ok ?_
  intro xs hp r hs hp'
  unfold npathS at hs
  split at hs
  · injection hs with hs; subst hs
    rename_i n
    have hp' : n.length ≤ 900000 := hp'
    refine ⟨len_le (by kernel_rfl), ?_⟩
    have hm1 := trimP_len n dataW
    have hm2 : (midN n).length ≤ (trimPrefix n dataW).length := Lib.trimSuffix_le _ _
    have hpl := psl_count (midN n)
    have hcl : (midN n).count 47 ≤ (midN n).length := List.count_le_length
    have hml := psl_mem_len (s := midN n)
    have hL0 := psl_ne 47 (midN n)
    have hj := dec_join_len (psl 47 (midN n)) hL0
    rw [join_psl] at hj
    have hum : unmid (midN n) = joinL (decPs (psl 47 (midN n))) := rfl
    have hsum := sumL_join (decPs (psl 47 (midN n)))
    have hEl := decPs_length (psl 47 (midN n))
    have hget := decPs_get (psl 47 (midN n))
    have hd1 : trimPrefix n [100, 97, 116, 97, 47] = trimPrefix n dataW := rfl
    have hd2 : hasPrefix n [100, 97, 116, 97, 47] = hasPrefix n dataW := rfl
    have hd3 : trimSuffix (trimPrefix n dataW) [46, 105] = midN n := rfl
    have hd4 : hasSuffix (trimPrefix n dataW) [46, 105] = hasSuffix (trimPrefix n dataW) iW := rfl
    simp only [c_npath, phiPT_1, phiPT_2, phiPT_3, cutPreS, cutSufS, splitS, hd1, hd2, hd3, hd4, go_sem, Nat.reduceDiv, Nat.reduceMod, ↓reduceIte, Nat.reduceEqDiff, Nat.reduceBEq, Nat.reduceSub, Nat.reduceLT, Nat.reduceAdd, Nat.reduceLeDiff, reduceCtorEq, Int.reduceEq, Int.reduceNe, Int.reduceLT, Int.reduceLE, Int.reduceToNat]
    generalize psl 47 (midN n) = L at *
    have hLl : L.length ≤ 900001 := by omega
    refine ⟨by omega, by omega, ?_⟩
    refine loop2P (m := 0) [] [0, 5, 6, 7, 27, 28, 29] [0] (fun i : Nat => ⟨[(0, .str n), (5, .bool (hasPrefix n dataW)), (6, .bool (hasSuffix (trimPrefix n dataW) iW)), (7, .own 0 0), (27, .own 0 0), (28, .int .i64 (L.length : Int)), (29, .int .i64 (i : Int))],
      [.row 9 1 0 ((mixL (decPs L) L i).map AV.str)]⟩)
      (fun i => i ≤ L.length) (fun i => L.length - i) 0 (by rfl) (Nat.zero_le _) ⟨rfl, by rfl⟩ (fun i hi R hR => ?_)
    have hmx := mix_len hEl hi
    by_cases hil : i < L.length
    · have c1 : decide ((i : Int) < (L.length : Int)) = true := decide_eq_true (by omega)
      have hgm := getD_map AV.str (mixL (decPs L) L i) [] (.str []) (i := i) (by omega)
      have hga := mix_get hEl hil
      have hst := mix_set hEl hil (hget i hil)
      have hxl := hml L[i] (List.getElem_mem _)
      have hbl := backL_len L[i]
      cases c2 : decide ((i : Int) < (L.length : Int) - 1) with
      | false =>
        have c2' := of_decide_eq_false c2
        rw [if_neg (by omega)] at hst
        simp only [b_npath_1, t_npath_0, t_npath_1, c1, c2, hgm, hga, hst, hmx, phiPT_4, nbackS, Int.toNat_natCast, List.length_map, go_sem, Nat.reduceDiv, Nat.reduceMod, ↓reduceIte, Nat.reduceEqDiff, Nat.reduceBEq, Nat.reduceSub, Nat.reduceLT, Nat.reduceAdd, Nat.reduceLeDiff, reduceCtorEq, Int.reduceEq, Int.reduceNe, Int.reduceLT, Int.reduceLE, Int.reduceToNat]
        (repeat' apply And.intro)
        all_goals first | omega | (simp only [inI]; omega) | exact hR _ (i + 1) hil (by omega) rfl | skip
      | true =>
        have c2' := of_decide_eq_true c2
        rw [if_pos (by omega)] at hst
        simp only [b_npath_1, c1, c2, hgm, hga, hmx, phiPT_4, nbackS, Int.toNat_natCast, List.length_map, go_sem, Nat.reduceDiv, Nat.reduceMod, ↓reduceIte, Nat.reduceEqDiff, Nat.reduceBEq, Nat.reduceSub, Nat.reduceLT, Nat.reduceAdd, Nat.reduceLeDiff, reduceCtorEq, Int.reduceEq, Int.reduceNe, Int.reduceLT, Int.reduceLE, Int.reduceToNat]
        have hx1 : (backL L[i]).length ≤ 9223372036854775807 := by omega
        generalize backL L[i] = x at *
        refine ⟨⟨by omega, by omega⟩, hil, by omega, ⟨by omega, by omega⟩, ?_⟩
        refine loop2P (m := 0) [] [0, 5, 6, 7, 8, 9, 27, 28, 29, 41, 42, 43] [0, 1] (fun j : Nat => ⟨[(0, .str n), (5, .bool (hasPrefix n dataW)), (6, .bool (hasSuffix (trimPrefix n dataW) iW)), (7, .own 0 0), (8, .int .i64 (i : Int)), (9, .str x), (27, .own 0 0), (28, .int .i64 (L.length : Int)), (29, .int .i64 (i : Int)), (41, .own 1 0), (42, .int .i64 3), (43, .int .i64 (j : Int))],
          [.row 9 1 0 ((mixL (decPs L) L i).map AV.str), .row 9 1 0 (endsW.map AV.str)]⟩)
          (fun j => j ≤ 3 ∧ ∀ k, k < j → hasSuffix x (endsW.getD k []) = false) (fun j => 3 - j) 0 (by rfl) ⟨Nat.zero_le _, fun _ h => by omega⟩ ⟨rfl, by rfl⟩ (fun j hj R2 hR2 => ?_)
        obtain ⟨j1, j2⟩ := hj
        by_cases hj3 : j < 3
        · have d1 : decide ((j : Int) < 3) = true := decide_eq_true (by omega)
          have hel : endsW.length = 3 := rfl
          have hgj := getD_map AV.str endsW [] (.str []) (i := j) (by rw [hel]; exact hj3)
          cases hsf : hasSuffix x (endsW.getD j []) with
          | true =>
            rw [unhg_hit hj3 hsf] at hst
            simp only [b_npath_0, t_npath_0, t_npath_1, d1, hgj, hsf, hel, hgm, hga, hst, hmx, phiPT_5, phiPT_6, hasSufS, trimSufS, Int.toNat_natCast, List.length_map, go_sem, Nat.reduceDiv, Nat.reduceMod, ↓reduceIte, Nat.reduceEqDiff, Nat.reduceBEq, Nat.reduceSub, Nat.reduceLT, Nat.reduceAdd, Nat.reduceLeDiff, reduceCtorEq, Int.reduceEq, Int.reduceNe, Int.reduceLT, Int.reduceLE, Int.reduceToNat]
            (repeat' apply And.intro)
            all_goals first | omega | (simp only [inI]; omega) | exact hR _ (i + 1) hil (by omega) rfl | skip
          | false =>
            have j3 : ∀ k, k < j + 1 → hasSuffix x (endsW.getD k []) = false := fun k hk => by
              rcases Nat.lt_or_ge k j with h | h
              · exact j2 k h
              · have e : k = j := by omega
                rw [e]; exact hsf
            simp only [b_npath_0, d1, hgj, hsf, hel, phiPT_5, hasSufS, Int.toNat_natCast, List.length_map, go_sem, Nat.reduceDiv, Nat.reduceMod, ↓reduceIte, Nat.reduceEqDiff, Nat.reduceBEq, Nat.reduceSub, Nat.reduceLT, Nat.reduceAdd, Nat.reduceLeDiff, reduceCtorEq, Int.reduceEq, Int.reduceNe, Int.reduceLT, Int.reduceLE, Int.reduceToNat]
            (repeat' apply And.intro)
            all_goals first | omega | (simp only [inI]; omega) | exact hR2 _ (j + 1) ⟨hj3, j3⟩ (by omega) rfl | skip
        · have d1 : decide ((j : Int) < 3) = false := decide_eq_false (by omega)
          obtain rfl : j = 3 := by omega
          rw [unhg_miss j2] at hst
          have d3 : decide (((3 : Nat) : Int) < 3) = false := d1
          simp only [b_npath_0, t_npath_0, t_npath_1, d1, d3, hgm, hga, hst, hmx, Int.toNat_natCast, List.length_map, go_sem, Nat.reduceDiv, Nat.reduceMod, ↓reduceIte, Nat.reduceEqDiff, Nat.reduceBEq, Nat.reduceSub, Nat.reduceLT, Nat.reduceAdd, Nat.reduceLeDiff, reduceCtorEq, Int.reduceEq, Int.reduceNe, Int.reduceLT, Int.reduceLE, Int.reduceToNat]
          (repeat' apply And.intro)
          all_goals first | omega | (simp only [inI]; omega) | exact hR _ (i + 1) hil (by omega) rfl | skip
    · have c1 : decide ((i : Int) < (L.length : Int)) = false := decide_eq_false (by omega)
      obtain rfl : i = L.length := by omega
      have hmE : mixL (decPs L) L L.length = decPs L := by
        unfold mixL
        rw [List.drop_length, List.append_nil, List.take_of_length_le (by omega)]
      rw [hmE]
      have hjn : (joinL (decPs L)).length ≤ 1000000000 := by omega
      unfold pathR
      rw [hum]
      generalize hq : joinL (decPs L) = q at *
      obtain ⟨⟨nm, er⟩, hnr⟩ : ∃ z, nameR q = z := ⟨_, rfl⟩
      rw [hnr]
      cases g1 : hasPrefix n dataW with
      | false =>
        rw [if_neg (fun h => Bool.false_ne_true h.1)]
        simp only [b_npath_1, t_npath_2, r_npath, c1, g1, hnr, hq, phiPT_7, phiPT_8, joinS, nnameS, unS_strs, joinW_L, go_sem, Nat.reduceDiv, Nat.reduceMod, ↓reduceIte, Nat.reduceEqDiff, Nat.reduceBEq, Nat.reduceSub, Nat.reduceLT, Nat.reduceAdd, Nat.reduceLeDiff, reduceCtorEq, Int.reduceEq, Int.reduceNe, Int.reduceLT, Int.reduceLE, Int.reduceToNat]
        (repeat' apply And.intro); all_goals first | exact .inl trivial | omega | rfl | exact True.intro | skip
      | true =>
        cases g2 : hasSuffix (trimPrefix n dataW) iW with
        | false =>
          rw [if_neg (fun h => Bool.false_ne_true h.2.1)]
          simp only [b_npath_1, t_npath_2, r_npath, c1, g1, g2, hnr, hq, phiPT_7, phiPT_8, joinS, nnameS, unS_strs, joinW_L, go_sem, Nat.reduceDiv, Nat.reduceMod, ↓reduceIte, Nat.reduceEqDiff, Nat.reduceBEq, Nat.reduceSub, Nat.reduceLT, Nat.reduceAdd, Nat.reduceLeDiff, reduceCtorEq, Int.reduceEq, Int.reduceNe, Int.reduceLT, Int.reduceLE, Int.reduceToNat]
          (repeat' apply And.intro); all_goals first | exact .inl trivial | omega | rfl | exact True.intro | skip
        | true =>
          cases g3 : decide (er = 0) with
          | false =>
            have g3' := of_decide_eq_false g3
            rw [if_neg (fun h => g3' (Prod.mk.inj h.2.2).2)]
            simp only [b_npath_1, t_npath_2, r_npath, c1, g1, g2, g3, hnr, hq, phiPT_7, phiPT_8, joinS, nnameS, unS_strs, joinW_L, go_sem, Nat.reduceDiv, Nat.reduceMod, ↓reduceIte, Nat.reduceEqDiff, Nat.reduceBEq, Nat.reduceSub, Nat.reduceLT, Nat.reduceAdd, Nat.reduceLeDiff, reduceCtorEq, Int.reduceEq, Int.reduceNe, Int.reduceLT, Int.reduceLE, Int.reduceToNat]
            (repeat' apply And.intro); all_goals first | exact .inl trivial | omega | rfl | exact True.intro | skip
          | true =>
            have g3' := of_decide_eq_true g3
            cases g4 : decide (nm = n) with
            | false =>
              have g4' := of_decide_eq_false g4
              rw [if_neg (fun h => g4' (Prod.mk.inj h.2.2).1)]
              simp only [b_npath_1, t_npath_2, r_npath, c1, g1, g2, g3, g4, hnr, hq, phiPT_7, phiPT_8, joinS, nnameS, unS_strs, joinW_L, go_sem, Nat.reduceDiv, Nat.reduceMod, ↓reduceIte, Nat.reduceEqDiff, Nat.reduceBEq, Nat.reduceSub, Nat.reduceLT, Nat.reduceAdd, Nat.reduceLeDiff, reduceCtorEq, Int.reduceEq, Int.reduceNe, Int.reduceLT, Int.reduceLE, Int.reduceToNat]
              (repeat' apply And.intro); all_goals first | exact .inl trivial | omega | rfl | exact True.intro | skip
            | true =>
              have g4' := of_decide_eq_true g4
              rw [if_pos ⟨rfl, rfl, by rw [g3', g4']⟩]
              simp only [b_npath_1, t_npath_2, r_npath, c1, g1, g2, g3, g4, hnr, hq, phiPT_7, phiPT_8, joinS, nnameS, unS_strs, joinW_L, go_sem, Nat.reduceDiv, Nat.reduceMod, ↓reduceIte, Nat.reduceEqDiff, Nat.reduceBEq, Nat.reduceSub, Nat.reduceLT, Nat.reduceAdd, Nat.reduceLeDiff, reduceCtorEq, Int.reduceEq, Int.reduceNe, Int.reduceLT, Int.reduceLE, Int.reduceToNat]
              (repeat' apply And.intro); all_goals first | exact .inl trivial | omega | rfl | exact True.intro | skip
  · cases hs
end Go.Proofs.YtakojeefilpibaaDoor
namespace Go.Proofs.YtakojeefilpibaaDoor
set_option linter.all false
open Go.RowKit
open Go.Lib (index hasPrefix trimPrefix cut indexAny hasSuffix trimSuffix)
theorem nameR_ok {p x : List UInt8} (h : nameR p = (x, 0)) : rightP p = true ∧ x = nameL p ∧ x.length ≤ 255 := by
  unfold nameR at h
  cases hr : rightP p with
  | false => rw [hr, if_neg Bool.false_ne_true] at h; have := (Prod.mk.inj h).2; simp at this
  | true =>
    rw [hr, if_pos rfl] at h
    split at h
    · have := (Prod.mk.inj h).2; simp at this
    · have := (Prod.mk.inj h).1; subst this; exact ⟨rfl, rfl, by omega⟩
theorem pathR_name {p x : List UInt8} (h : nameR p = (x, 0)) : pathR x = (p, 0) := by
  obtain ⟨h1, rfl, h3⟩ := nameR_ok h
  have e1 : hasPrefix (nameL p) dataW = true := by
    unfold hasPrefix nameL
    exact List.isPrefixOf_iff_prefix.2 ⟨_, rfl⟩
  have e2 : trimPrefix (nameL p) dataW = midL p ++ iW := by
    unfold trimPrefix
    rw [if_pos e1]
    unfold nameL
    rw [List.drop_left]
  have e3 : hasSuffix (midL p ++ iW) iW = true := by
    unfold hasSuffix
    exact List.isSuffixOf_iff_suffix.2 ⟨_, rfl⟩
  have e4 : midN (nameL p) = midL p := by
    unfold midN
    rw [e2]
    unfold trimSuffix
    rw [if_pos e3, List.length_append, Nat.add_sub_cancel, List.take_left]
  unfold pathR
  rw [e1, e2, e3, e4, unmid_mid, h, if_pos ⟨rfl, rfl, rfl⟩]
def nknownS : Spec := fun xs hp => match xs, hp with
  | [], [] => some ⟨.bool true, [], True⟩
  | _, _ => none
theorem kn1 : nameR [102, 111, 111, 47, 66, 97, 114, 95, 120, 46, 99] = ([100, 97, 116, 97, 47, 102, 111, 111, 47, 95, 98, 97, 114, 95, 95, 120, 46, 99, 46, 105], 0) := by decide +kernel
theorem kn2 : nameR [97, 46, 105, 47, 46, 98] = ([100, 97, 116, 97, 47, 97, 46, 105, 46, 104, 103, 47, 126, 50, 101, 98, 46, 105], 0) := by decide +kernel
theorem kn3 : pathR [100, 97, 116, 97, 47, 97, 117, 126, 55, 56, 46, 99, 46, 105] = ([97, 117, 120, 46, 99], 0) :=
  pathR_name (by decide +kernel)
theorem nknown_ok : FnOk Tryd.prog 6 nknownS := by
  refine fn_slim2 Tryd.func6 s_nknown (Φ := phiL [(5, [], nnameS), (7, [], npathS)]) (phi_cons nname_ok (by kernel_rfl) (phi_cons npath_ok (by kernel_rfl) phi_nil)) ?_
  intro xs hp r hs hp'
  unfold nknownS at hs
  split at hs
  · injection hs with hs; subst hs
    refine ⟨len_le (by kernel_rfl), ?_⟩
    simp only [c_nknown, r_nknown, nnameS, npathS, kn1, kn2, kn3, go_sem, Nat.reduceDiv, Nat.reduceMod, ↓reduceIte, Nat.reduceEqDiff, Nat.reduceBEq, Nat.reduceSub, Nat.reduceLT, Nat.reduceAdd, Nat.reduceLeDiff, reduceCtorEq, Int.reduceEq, Int.reduceNe, Int.reduceLT, Int.reduceLE, Int.reduceToNat]
    (repeat' apply And.intro)
    all_goals first | exact True.intro | omega | rfl | decide | skip
  · cases hs
def phiLN : Phi := phiL [(5, [], nnameS), (7, [], npathS), (6, [], nknownS)]
theorem phiLN_ok : PhiOk Tryd.prog phiLN := phi_cons nname_ok (by kernel_rfl) (phi_cons npath_ok (by kernel_rfl) (phi_cons nknown_ok (by kernel_rfl) phi_nil))
theorem phiLN_1 : phiLN 5 = some ([], nnameS) := rfl
theorem phiLN_3 : phiLN 6 = some ([], nknownS) := rfl
end Go.Proofs.YtakojeefilpibaaDoor
