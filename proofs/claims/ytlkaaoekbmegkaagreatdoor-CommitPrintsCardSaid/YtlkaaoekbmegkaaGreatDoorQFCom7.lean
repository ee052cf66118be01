import Derived.Test.YtlkaaoekbmegkaaGreatDoorQT2h
import Derived.Test.YtlkaaoekbmegkaaGreatDoorQHex
import Derived.Test.YtlkaaoekbmegkaaGreatDoorQRunes
import Derived.Test.YtlkaaoekbmegkaaGreatDoorQAMS
import Derived.Test.YtlkaaoekbmegkaaGreatDoorQFNRight
namespace Go.Proofs.YtlkaaoekbmegkaaGreatDoor
set_option linter.all false
open Go.RowKit
open Go.Lib (index hasPrefix cut indexAny itoa)
def treW : List UInt8 := [116, 114, 101, 101, 32]
def parW : List UInt8 := [112, 97, 114, 101, 110, 116, 32]
def autW : List UInt8 := [97, 117, 116, 104, 111, 114, 32]
def comW : List UInt8 := [99, 111, 109, 109, 105, 116, 116, 101, 114, 32]
def parentsG : Nat → List UInt8 → Bool → List (List UInt8) → List UInt8 × Bool × List (List UInt8)
  | 0, s, b, acc => (s, b, acc)
  | f + 1, s, b, acc => if b = false ∧ hasPrefix s parW = true then parentsG f (mustG s b parW).2.1 ((mustG s b parW).2.2 || !goodQ (mustG s b parW).1) (acc ++ [pOut (mustG s b parW).1]) else (s, b, acc)
theorem parents_dec (s : List UInt8) : wgt (mustG s false parW).2.1 ((mustG s false parW).2.2 || !goodQ (mustG s false parW).1) < wgt s false := by
  have h2 := (mustG_len s false parW).2
  have hx : ∀ b : Bool, (if b = true then 0 else 1 : Nat) ≤ 1 := by intro b; split <;> omega
  unfold wgt
  rcases mustG_dec s parW false with h | h
  · simp only [h, Bool.true_or, if_true]; simp; omega
  · have h3 := hx ((mustG s false parW).2.2 || !goodQ (mustG s false parW).1)
    show _ < s.length + 1
    omega
theorem extrasG_len : ∀ (f : Nat) (s : List UInt8) (b : Bool) (acc : List ExL), (extrasG f s b acc).1.length ≤ s.length := by
  intro f
  induction f with
  | zero => intro s b acc; exact Nat.le_refl _
  | succ f ih =>
    intro s b acc
    unfold extrasG
    split
    · have h1 := ih (extra1 s).1 (extra1 s).2.2.1 (acc ++ [(extra1 s).2.2.2])
      have h2 := (contG_len ((mustG s false []).2.1.length + 1) (mustG s false []).2.1 (cut (mustG s false []).1 [32]).2.1).1
      have h3 := (mustG_len s false []).2
      have h4 : (extra1 s).1.length ≤ s.length := by unfold extra1; simp only; omega
      omega
    · exact Nat.le_refl _
def pM (s : List UInt8) := mustG s false treW
def pB0 (s : List UInt8) : Bool := (pM s).2.2 || !goodQ (pM s).1
def pP (s : List UInt8) := parentsG (wgt (pM s).2.1 (pB0 s) + 1) (pM s).2.1 (pB0 s) []
def pA (s : List UInt8) := mustG (pP s).1 (pP s).2.1 autW
noncomputable def pB1 (s : List UInt8) : Bool := (pA s).2.2 || !personB (pA s).1
noncomputable def pC (s : List UInt8) := mustG (pA s).2.1 (pB1 s) comW
noncomputable def pB2 (s : List UInt8) : Bool := (pC s).2.2 || !personB (pC s).1
noncomputable def pE (s : List UInt8) := extrasG (wgt (pC s).2.1 (pB2 s) + 1) (pC s).2.1 (pB2 s) []
noncomputable def pL (s : List UInt8) := mustG (pE s).1 (pE s).2.1 []
noncomputable def parC11 (s : List UInt8) : ComL := ⟨pOut (pM s).1, (pP s).2.2, personV (pA s).1, personV (pC s).1, (pE s).2.2, (pL s).2.1⟩
noncomputable def parB11 (s : List UInt8) : Bool := !(pL s).2.2 && decide ((pL s).1 = [])
def comPs (t : List UInt8) (P : AV) (a c : WhoL) (E : AV) (m : List UInt8) : List (Nat × AV) :=
  [(20, .blob (t.map U)), (1, P), (1, .str a.name), (1, .str a.mail), (1, .int .i64 a.time), (1, .str a.zone), (1, .str c.name), (1, .str c.mail), (1, .int .i64 c.time), (1, .str c.zone), (1, E), (1, .str m)]
def z20L : List UInt8 := List.replicate 20 0
def com0 : List (Nat × AV) := comPs z20L (.con (.slice none 0 0)) who0 who0 (.con (.slice none 0 0)) []
def parR11 (c : ComL) (ok : Bool) (pr : Prop) : Option Ret := if ok = true then
    some ⟨.tup [.agg (comPs c.tree (.own 0 c.parents.length) c.author c.committer (.own 1 c.extras.length) c.message), .int .i64 0], [.row 29 20 c.parents.length (c.parents.map idAV), .row 75 2 c.extras.length (c.extras.map exV)], pr⟩
  else some ⟨.tup [.agg com0, .int .i64 4], [], pr⟩
noncomputable def cparS : Spec := fun xs hp => match xs, hp with
  | [.sl 1 bs], [] => parR11 (parC11 (unB bs)) (parB11 (unB bs)) (bs = Bs (unB bs) ∧ bs.length ≤ 1000000)
  | _, _ => none
theorem parR11_pre {c : ComL} {ok : Bool} {pr : Prop} {r : Ret} (h : parR11 c ok pr = some r) (hr : r.pre) : pr := by
  unfold parR11 at h
  split at h <;> (injection h with h; subst h; exact hr)
noncomputable def phiPar : Phi := phiL [(49, [], cidS), (51, [], cwhoS), (52, [], cextrasS), (53, [], mustS), (50, [], hasPreS), (56, [], kindS)]
theorem phiPar_ok : PhiOk Tryz.prog phiPar := phi_cons cid_ok (by kernel_rfl) (phi_cons cwho_ok (by kernel_rfl) (phi_cons cextras_ok (by kernel_rfl) (phi_cons must_ok (by kernel_rfl) (phi_cons hasPre_ok (by kernel_rfl) (phi_cons okind_ok (by kernel_rfl) phi_nil)))))
theorem phiPar_1 : phiPar 49 = some ([], cidS) := rfl
theorem phiPar_2 : phiPar 51 = some ([], cwhoS) := rfl
theorem phiPar_3 : phiPar 52 = some ([], cextrasS) := rfl
theorem phiPar_4 : phiPar 53 = some ([], mustS) := rfl
theorem phiPar_5 : phiPar 50 = some ([], hasPreS) := rfl
theorem z20U : (List.replicate 20 (Value.int .u8 0)) = z20L.map U := rfl
set_option maxHeartbeats 4000000 in
theorem cpar_ok : FnOk Tryz.prog 21 cparS := by
  refine fn_slim2 Tryz.func21 s_cpar phiPar_ok ?_
  intro xs hp r hs hp'
  unfold cparS at hs
  split at hs
  · rename_i bs
    obtain ⟨q1, p1⟩ := parR11_pre hs hp'
    generalize unB bs = s at *
    subst q1
    rw [Bs_len] at p1
    refine ⟨len_le (by kernel_rfl), ?_⟩
    have hM := mustG_len s false treW
    have hM0 : mustG s false [116, 114, 101, 101, 32] = pM s := rfl
    have hM1 : mustG s false treW = pM s := rfl
    have hB0 : ((pM s).2.2 || !goodQ (pM s).1) = pB0 s := rfl
    rw [hM1] at hM
    simp only [c_cpar, phiPar_1, cidS, unB_Bs, z20U, pOut_len, hM0, hB0, go_sem, Nat.reduceDiv, Nat.reduceMod, ↓reduceIte, Nat.reduceEqDiff, Nat.reduceBEq, Nat.reduceSub, Nat.reduceLT, Nat.reduceAdd, Nat.reduceLeDiff, reduceCtorEq, Int.reduceEq, Int.reduceNe, Int.reduceLT, Int.reduceLE, Int.reduceToNat]
    refine ⟨by omega, ?_⟩
    have hPP : parentsG (wgt (pM s).2.1 (pB0 s) + 1) (pM s).2.1 (pB0 s) [] = pP s := rfl
    refine loop2P [(4225, 29, 20)] [2, 4, 5] [0, 1, 2, 3] (fun q : Nat × List UInt8 × Bool × List (List UInt8) => ⟨[(2, .ref 0 0 0), (4, .ref 1 0 0), (5, .ref 2 0 0)],
      [.cells 34 com0, .cells 107 [(1, .str q.2.1), (1, .bool q.2.2.1)], .cells 34 (comPs (pOut (pM s).1) (.own 3 q.2.2.2.length) who0 who0 (.con (.slice none 0 0)) []), .row 29 20 q.2.2.2.length (q.2.2.2.map idAV)]⟩)
      (fun q => wgt q.2.1 q.2.2.1 < q.1 ∧ parentsG q.1 q.2.1 q.2.2.1 q.2.2.2 = pP s ∧ q.2.1.length ≤ 1000000 ∧ q.1 + q.2.2.2.length ≤ 2000000) (fun q => q.1) (wgt (pM s).2.1 (pB0 s) + 1, (pM s).2.1, pB0 s, []) rfl ⟨Nat.lt_succ_self _, hPP, by simp only; omega, by simp only [List.length_nil, wgt]; split <;> omega⟩ ⟨rfl, by rfl⟩ (fun q hq R hR => ?_)
    obtain ⟨f, s1, b, acc⟩ := q
    simp only at hq
    obtain ⟨h1, h2, h3, h4⟩ := hq
    simp only at hR ⊢
    obtain ⟨f, rfl⟩ : ∃ g, f = g + 1 := ⟨f - 1, by omega⟩
    have exitK : ¬ (b = false ∧ hasPrefix s1 parW = true) → pP s = (s1, b, acc) := by
      intro h; rw [← h2]; unfold parentsG; rw [if_neg h]
    have tail : ∀ y0 y1 y2 y3 y4 y5 y6 y7 y8 y9 y10 y11 y12 y13 y14 y15 : AV, pP s = (s1, b, acc) → awp2 phiPar 0 t_cpar_0 (retQ2 r_cpar 0 r) ⟨[[.top, .top, .ref 0 0 0, .top, .ref 1 0 0, .ref 2 0 0, .top, .top, .top, .top, .top, .top, .top, .top, .top, .top], [y0, y1, y2, y3, y4, y5, y6, y7, y8, y9, y10, y11, y12, y13, y14, y15]],
      [.cells 34 com0, .cells 107 [(1, .str s1), (1, .bool b)], .cells 34 (comPs (pOut (pM s).1) (.own 3 acc.length) who0 who0 (.con (.slice none 0 0)) []), .row 29 20 acc.length (acc.map idAV)]⟩ := by
      intro y0 y1 y2 y3 y4 y5 y6 y7 y8 y9 y10 y11 y12 y13 y14 y15 e
      have hA : mustG s1 b [97, 117, 116, 104, 111, 114, 32] = pA s := by unfold pA; rw [e]; rfl
      have hB1 : ((pA s).2.2 || !personB (pA s).1) = pB1 s := rfl
      have hC : mustG (pA s).2.1 (pB1 s) [99, 111, 109, 109, 105, 116, 116, 101, 114, 32] = pC s := rfl
      have hB2 : ((pC s).2.2 || !personB (pC s).1) = pB2 s := rfl
      have hE : extrasG (wgt (pC s).2.1 (pB2 s) + 1) (pC s).2.1 (pB2 s) [] = pE s := rfl
      have hL : mustG (pE s).1 (pE s).2.1 [] = pL s := rfl
      have l1 : (pA s).2.1.length ≤ s1.length := by rw [← hA]; exact (mustG_len _ _ _).2
      have l2 : (pC s).2.1.length ≤ (pA s).2.1.length := by rw [← hC]; exact (mustG_len _ _ _).2
      have l3 : (pE s).1.length ≤ (pC s).2.1.length := extrasG_len _ _ _ _
      have bad : parB11 s = false → r = ⟨.tup [.agg com0, .int .i64 4], [], r.pre⟩ := by
        intro h
        unfold parR11 at hs
        rw [if_neg (by rw [h]; simp)] at hs
        injection hs with hs; subst hs; rfl
      cases h5 : (pL s).2.2 with
      | true =>
        rw [bad (by unfold parB11; rw [h5]; rfl)]
        simp only [t_cpar_0, r_cpar, comPs, com0, who0, phiPar_2, phiPar_3, phiPar_4, cwhoS, cextrasS, mustS, whoP, hA, hB1, hC, hB2, hE, hL, z20U, h5, go_sem, Nat.reduceDiv, Nat.reduceMod, ↓reduceIte, Nat.reduceEqDiff, Nat.reduceBEq, Nat.reduceSub, Nat.reduceLT, Nat.reduceAdd, Nat.reduceLeDiff, reduceCtorEq, Int.reduceEq, Int.reduceNe, Int.reduceLT, Int.reduceLE, Int.reduceToNat]
        exact ⟨by omega, by omega, by omega, by omega⟩
      | false =>
        by_cases h6 : (pL s).1 = []
        · have d6 : decide ((pL s).1 = []) = true := decide_eq_true h6
          have ok : parB11 s = true := by unfold parB11; rw [h5, d6]; rfl
          unfold parR11 at hs
          rw [if_pos ok] at hs
          injection hs with hs; subst hs
          unfold parC11
          simp only [e]
          simp only [t_cpar_0, r_cpar, comPs, com0, who0, phiPar_2, phiPar_3, phiPar_4, cwhoS, cextrasS, mustS, whoP, hA, hB1, hC, hB2, hE, hL, z20U, h5, d6, go_sem, Nat.reduceDiv, Nat.reduceMod, ↓reduceIte, Nat.reduceEqDiff, Nat.reduceBEq, Nat.reduceSub, Nat.reduceLT, Nat.reduceAdd, Nat.reduceLeDiff, reduceCtorEq, Int.reduceEq, Int.reduceNe, Int.reduceLT, Int.reduceLE, Int.reduceToNat]
          exact ⟨by omega, by omega, by omega, by omega⟩
        · have d6 : decide ((pL s).1 = []) = false := decide_eq_false h6
          rw [bad (by unfold parB11; rw [d6]; simp)]
          simp only [t_cpar_0, r_cpar, comPs, com0, who0, phiPar_2, phiPar_3, phiPar_4, cwhoS, cextrasS, mustS, whoP, hA, hB1, hC, hB2, hE, hL, z20U, h5, d6, go_sem, Nat.reduceDiv, Nat.reduceMod, ↓reduceIte, Nat.reduceEqDiff, Nat.reduceBEq, Nat.reduceSub, Nat.reduceLT, Nat.reduceAdd, Nat.reduceLeDiff, reduceCtorEq, Int.reduceEq, Int.reduceNe, Int.reduceLT, Int.reduceLE, Int.reduceToNat]
          exact ⟨by omega, by omega, by omega, by omega⟩
    cases hb : b with
    | true =>
      subst hb
      simp only [b_cpar_0, comPs, com0, who0, phiPar_5, hasPreS, go_sem, Nat.reduceDiv, Nat.reduceMod, ↓reduceIte, Nat.reduceEqDiff, Nat.reduceBEq, Nat.reduceSub, Nat.reduceLT, Nat.reduceAdd, Nat.reduceLeDiff, reduceCtorEq, Int.reduceEq, Int.reduceNe, Int.reduceLT, Int.reduceLE, Int.reduceToNat]
      exact tail _ _ _ _ _ _ _ _ _ _ _ _ _ _ _ _ (exitK (by simp))
    | false =>
      subst hb
      cases hn : hasPrefix s1 parW with
      | false =>
        have hn' : hasPrefix s1 [112, 97, 114, 101, 110, 116, 32] = false := hn
        simp only [b_cpar_0, comPs, com0, who0, phiPar_5, hasPreS, hn', go_sem, Nat.reduceDiv, Nat.reduceMod, ↓reduceIte, Nat.reduceEqDiff, Nat.reduceBEq, Nat.reduceSub, Nat.reduceLT, Nat.reduceAdd, Nat.reduceLeDiff, reduceCtorEq, Int.reduceEq, Int.reduceNe, Int.reduceLT, Int.reduceLE, Int.reduceToNat]
        exact tail _ _ _ _ _ _ _ _ _ _ _ _ _ _ _ _ (exitK (by rw [hn]; simp))
      | true =>
        have hn' : hasPrefix s1 [112, 97, 114, 101, 110, 116, 32] = true := hn
        simp only [b_cpar_0, comPs, com0, who0, phiPar_1, phiPar_5, cidS, hasPreS, z20U, pOut_len, hn', go_sem, Nat.reduceDiv, Nat.reduceMod, ↓reduceIte, Nat.reduceEqDiff, Nat.reduceBEq, Nat.reduceSub, Nat.reduceLT, Nat.reduceAdd, Nat.reduceLeDiff, reduceCtorEq, Int.reduceEq, Int.reduceNe, Int.reduceLT, Int.reduceLE, Int.reduceToNat]
        have hm : mustG s1 false [112, 97, 114, 101, 110, 116, 32] = mustG s1 false parW := rfl
        have hlen : (acc.map idAV ++ [AV.blob ((pOut (mustG s1 false [112, 97, 114, 101, 110, 116, 32]).1).map U)]).length = acc.length + 1 := by simp
        have hdec := parents_dec s1
        have hw0 : wgt s1 false = s1.length + 1 := rfl
        have hml := mustG_len s1 false parW
        have e2 : parentsG f (mustG s1 false parW).2.1 ((mustG s1 false parW).2.2 || !goodQ (mustG s1 false parW).1) (acc ++ [pOut (mustG s1 false parW).1]) = pP s := by rw [← h2]; conv => rhs; unfold parentsG; rw [if_pos ⟨rfl, hn⟩]
        refine ⟨by omega, ⟨by rw [hlen]; (first | omega | (simp only [lenOk, bytesOk, inI, IntKind.bits, List.length_append, Bs_len, List.length_cons, List.length_nil, List.length_map, List.length_take, List.length_drop, List.length_replicate]; omega)), by rw [hlen]; (first | omega | (simp only [lenOk, bytesOk, inI, IntKind.bits, List.length_append, Bs_len, List.length_cons, List.length_nil, List.length_map, List.length_take, List.length_drop, List.length_replicate]; omega))⟩, hR _ (f, (mustG s1 false parW).2.1, ((mustG s1 false parW).2.2 || !goodQ (mustG s1 false parW).1), acc ++ [pOut (mustG s1 false parW).1]) ⟨by simp only; omega, e2, by simp only; omega, by simp only [List.length_append, List.length_cons, List.length_nil]; omega⟩ (by simp only; omega) ?_⟩
        simp only [List.length_append, List.length_cons, List.length_nil, List.map_append, List.map_cons, List.map_nil]
        rfl
  · cases hs
end Go.Proofs.YtlkaaoekbmegkaaGreatDoor
namespace Go.Proofs.YtlkaaoekbmegkaaGreatDoor
set_option linter.all false
open Go.RowKit
open Go.Lib (decDigits itoa)
noncomputable def decP : Nat → List UInt8 := sealF fun n => if n = 0 then [] else decDigits n
theorem decP_0 : decP 0 = [] := by unfold decP; rw [sealF_eq]; rfl
theorem decP_pos {n : Nat} (h : 0 < n) : decP n = decDigits n := by unfold decP; rw [sealF_eq]; exact if_neg (by omega)
theorem decP_step {n : Nat} (h : 0 < n) : decP n = decP (n / 10) ++ [dc (n % 10)] := by
  rw [decP_pos h]
  by_cases h1 : n < 10
  · rw [decD_small h1, Nat.div_eq_of_lt h1, decP_0, Nat.mod_eq_of_lt h1]; rfl
  · rw [decD_big (by omega), decP_pos (by omega)]
theorem decD_last (n : Nat) : decP (n / 10) ++ [dc (n % 10)] = decDigits n := by
  by_cases h : n = 0
  · subst h; rw [decP_0, decD_small (by omega)]; rfl
  · rw [← decP_step (by omega), decP_pos (by omega)]
def b_rdec_0 : ACode := (.seq (.seq (.reg none [⟨(some 7), (.mv (.t 0)), none⟩, ⟨(some 8), (.bin .lss (.t 7) (.c (.int .i64 0))), none⟩]) (.cond (.t 8) .skip (.exit 0))) (.block 1 (.seq (.reg none [⟨(some 9), (.mv (.t 0)), none⟩, ⟨(some 10), (.bin .rem (.t 9) (.c (.int .i64 10))), none⟩, ⟨(some 11), (.bin .sub (.c (.int .i64 48)) (.t 10)), none⟩, ⟨(some 12), (.toInt .u8 (.t 11)), none⟩, ⟨(some 13), (.buildSl 5 1 [(.t 12)]), none⟩, ⟨(some 14), (.toStr (.t 13)), none⟩, ⟨(some 15), (.mv (.t 3)), none⟩, ⟨(some 16), (.bin .add (.t 14) (.t 15)), none⟩, ⟨(some 3), (.mv (.t 16)), none⟩]) (.reg none [⟨(some 17), (.mv (.t 0)), none⟩, ⟨(some 18), (.bin .quo (.t 17) (.c (.int .i64 10))), none⟩, ⟨(some 0), (.mv (.t 18)), none⟩]))))
def b_rdec_1 : ACode := (.seq (.seq (.reg none [⟨(some 29), (.mv (.t 0)), none⟩, ⟨(some 30), (.bin .gtr (.t 29) (.c (.int .i64 0))), none⟩]) (.cond (.t 30) .skip (.exit 2))) (.seq (.block 3 (.reg none [⟨(some 33), (.mv (.t 0)), none⟩, ⟨(some 34), (.bin .rem (.t 33) (.c (.int .i64 10))), none⟩, ⟨(some 35), (.bin .add (.c (.int .i64 48)) (.t 34)), none⟩, ⟨(some 36), (.toInt .u8 (.t 35)), none⟩, ⟨(some 37), (.buildSl 5 1 [(.t 36)]), none⟩, ⟨(some 38), (.toStr (.t 37)), none⟩, ⟨(some 39), (.mv (.t 4)), none⟩, ⟨(some 40), (.bin .add (.t 38) (.t 39)), none⟩, ⟨(some 4), (.mv (.t 40)), none⟩])) (.reg none [⟨(some 31), (.mv (.t 0)), none⟩, ⟨(some 32), (.bin .quo (.t 31) (.c (.int .i64 10))), none⟩, ⟨(some 0), (.mv (.t 32)), none⟩])))
def t_rdec_0 : ACode := (.seq (.reg none [⟨(some 41), (.mv (.t 4)), none⟩, ⟨(some 2), (.mv (.t 41)), none⟩]) .ret)
def t_rdec_1 : ACode := (.seq (.reg none [⟨(some 21), (.mv (.t 0)), none⟩, ⟨(some 22), (.bin .rem (.t 21) (.c (.int .i64 10))), none⟩, ⟨(some 23), (.bin .add (.c (.int .i64 48)) (.t 22)), none⟩, ⟨(some 24), (.toInt .u8 (.t 23)), none⟩, ⟨(some 25), (.buildSl 5 1 [(.t 24)]), none⟩, ⟨(some 26), (.toStr (.t 25)), none⟩, ⟨(some 4), (.mv (.t 26)), none⟩]) (.seq (.seq (.reg none [⟨(some 27), (.mv (.t 0)), none⟩, ⟨(some 28), (.bin .quo (.t 27) (.c (.int .i64 10))), none⟩, ⟨(some 0), (.mv (.t 28)), none⟩]) (.block 2 (.loop b_rdec_1))) t_rdec_0))
def c_rdec : ACode := (.seq (.reg none [⟨(some 2), (.mv (.c (.str []))), none⟩]) (.seq (.seq (.reg none [⟨(some 5), (.mv (.t 0)), none⟩, ⟨(some 6), (.bin .lss (.t 5) (.c (.int .i64 0))), none⟩]) (.cond (.t 6) (.seq (.reg none [⟨(some 3), (.mv (.c (.str []))), none⟩]) (.seq (.block 0 (.loop b_rdec_0)) (.seq (.reg none [⟨(some 19), (.mv (.t 3)), none⟩, ⟨(some 20), (.bin .add (.c (.str [45])) (.t 19)), none⟩, ⟨(some 2), (.mv (.t 20)), none⟩]) .ret))) .skip)) t_rdec_1))
def r_rdec : List ARes := [(.t 2)]
theorem s_rdec : slimF Tryz.prog Tryz.f43 = some (c_rdec, r_rdec) := by kernel_rfl
theorem rdec_ok : FnOk Tryz.prog 43 itoaS := by
  refine fn_slim Tryz.func43 s_rdec (Φ := phiL []) phi_nil ?_
  intro xs hp r hs hp'
  unfold itoaS at hs
  split at hs
  · injection hs with hs; subst hs
    rename_i n
    refine ⟨len_le (by kernel_rfl), ?_⟩
    have hn : inI n := hp'
    obtain ⟨hn1, hn2⟩ := hn
    by_cases hneg : n < 0
    · have d1 : decide (n < 0) = true := decide_eq_true hneg
      obtain ⟨m, rfl⟩ : ∃ m : Nat, n = -(m : Int) := ⟨n.natAbs, by omega⟩
      have hit : itoa (-(m : Int)) = 45 :: decDigits m := Lib.itoa_neg m (by omega)
      have hlen := decD_pow 18 m (by omega)
      simp only [c_rdec, d1, awp_scope, noG_n, noG_r, noG_x, awp_skip, awp_reg, awp_draw, awp_seq, awp_cond, awp_block, awp_loop, awp_exit, awp_ret, arun_nil, arun_op, arun_gt, arun_gf, arunD_nil, arunD_op, arunD_gt, arunD_gf, aq_some, isB_t, isB_u, isB_f, isB_g, isB_p, isU_t, isU_b, ifB_t, ifB_f, thenQ_n, thenQ_x, thenQ_r, inQ_n, inQ_r, inQ_x, retQ_n, retQ_r, exD, AOp.isH, keepN, preB, avalP, pureR, astep, stV, stN, stE, stC, aval, anew, aElems, frzS, frzH, aeff, slots, aret, ares, aress, AV.isTup, eqFs, aEqS, ofC_i, ofC_b, ofC_s, ofC_U, getD_mapU, getD_Bs, Bs_len, Int.toNat_natCast, opd, pt, tk, subp, rdP, Rt.size, Rt.isAgg, Rt.zv, aBin, aInt, aStr, arI, aUn, aToInt, aToStr, aIdxS, zv, aIdxA, aIa, aIaA, aFa, aLd, aFld, pparts, aLo, aHi, cutL, aSlS, aSl, aExt, aNck, aNilc, AV.isStr, aLen, AV.one, AV.multi, pureB, szOk, psz, drp, spl, aEqB, aEqA, aMm, aMkfn, aMkif, aBuild, toV, aBuildA, wrP, unparts, view, nilS, St.ev, lk, St.put, St.pin, St.pinV, acall0, acall1, acall2, acall3, bor, bor0, bor1, phiL_nil, phiL_at, tau, lentO, okIds, flatC, flatB, flatOs, flatO, flatPs, place, setAll_nil, setAll_cons, nodupB, renObj, closeIds, addNew, idsOf, idsObj, posOf, lenOk_0, lenOk_1, lenOk_2, lenOk_3, lenOk_4, lenOk_8, ↓reduceIte, Option.isSome_none, Option.isSome_some, Bool.or_true, Bool.true_or,  Nat.reduceEqDiff, Nat.reduceBEq, Nat.reduceSub, Nat.reduceLT, beq_self_eq_true, List.map, List.set, List.map_cons, List.map_nil, List.flatMap_cons, List.flatMap_nil, List.flatten_cons, List.flatten_nil, true_and, and_true, List.length_cons, List.length_nil, Nat.reduceAdd, Nat.reduceLeDiff, List.nil_append, List.cons_append, List.append_nil, Option.map, mapO, ren, kp, kpI, ent, nilG, Option.bind, List.range, List.range.loop, List.getElem?_cons_zero, List.getElem?_cons_succ, List.getElem?_nil, List.getD_cons_zero, List.getD_cons_succ, List.drop_zero, List.drop_succ_cons, List.drop_nil, List.take_zero, List.take_succ_cons, List.all_cons, List.all_nil, List.isEmpty_nil, List.isEmpty_cons, Bool.and_true, Bool.true_and, Bool.not_true, Bool.not_false, List.contains_nil, reduceCtorEq, List.contains_cons, Bool.or_false, Bool.false_or, eq_self, forall_const, false_implies, Bool.false_eq_true, Nat.le_refl, List.length_map, List.length_set, List.length_replicate, and_self, implies_true]
      refine loop_at [] [0, 3] [] (fun a : Nat × List UInt8 => ⟨[(0, .int .i64 (-(a.1 : Int))), (3, .str a.2)], []⟩) (fun a => decP a.1 ++ a.2 = decDigits m ∧ a.1 ≤ m) (fun a => a.1) (m, []) rfl ⟨by simp only [List.append_nil]; exact decP_pos (by omega), Nat.le_refl _⟩ ⟨rfl, rfl⟩ (fun a ha => ?_)
      obtain ⟨cur, s⟩ := a
      obtain ⟨ha, hb⟩ := ha
      simp only at ha hb
      have hl := congrArg List.length ha
      rw [List.length_append] at hl
      by_cases hc : cur = 0
      · subst hc
        have d2 : decide (-((0 : Nat) : Int) < 0) = false := decide_eq_false (by omega)
        rw [decP_0, List.nil_append] at ha
        subst ha
        simp only [b_rdec_0, r_rdec, d2, hit, awp_scope, noG_n, noG_r, noG_x, awp_skip, awp_reg, awp_draw, awp_seq, awp_cond, awp_block, awp_loop, awp_exit, awp_ret, arun_nil, arun_op, arun_gt, arun_gf, arunD_nil, arunD_op, arunD_gt, arunD_gf, aq_some, isB_t, isB_u, isB_f, isB_g, isB_p, isU_t, isU_b, ifB_t, ifB_f, thenQ_n, thenQ_x, thenQ_r, inQ_n, inQ_r, inQ_x, retQ_n, retQ_r, exD, AOp.isH, keepN, preB, avalP, pureR, astep, stV, stN, stE, stC, aval, anew, aElems, frzS, frzH, aeff, slots, aret, ares, aress, AV.isTup, eqFs, aEqS, ofC_i, ofC_b, ofC_s, ofC_U, getD_mapU, getD_Bs, Bs_len, Int.toNat_natCast, opd, pt, tk, subp, rdP, Rt.size, Rt.isAgg, Rt.zv, aBin, aInt, aStr, arI, aUn, aToInt, aToStr, aIdxS, zv, aIdxA, aIa, aIaA, aFa, aLd, aFld, pparts, aLo, aHi, cutL, aSlS, aSl, aExt, aNck, aNilc, AV.isStr, aLen, AV.one, AV.multi, pureB, szOk, psz, drp, spl, aEqB, aEqA, aMm, aMkfn, aMkif, aBuild, toV, aBuildA, wrP, unparts, view, nilS, St.ev, lk, St.put, St.pin, St.pinV, acall0, acall1, acall2, acall3, bor, bor0, bor1, phiL_nil, phiL_at, tau, lentO, okIds, flatC, flatB, flatOs, flatO, flatPs, place, setAll_nil, setAll_cons, nodupB, renObj, closeIds, addNew, idsOf, idsObj, posOf, lenOk_0, lenOk_1, lenOk_2, lenOk_3, lenOk_4, lenOk_8, ↓reduceIte, Option.isSome_none, Option.isSome_some, Bool.or_true, Bool.true_or,  Nat.reduceEqDiff, Nat.reduceBEq, Nat.reduceSub, Nat.reduceLT, beq_self_eq_true, List.map, List.set, List.map_cons, List.map_nil, List.flatMap_cons, List.flatMap_nil, List.flatten_cons, List.flatten_nil, true_and, and_true, List.length_cons, List.length_nil, Nat.reduceAdd, Nat.reduceLeDiff, List.nil_append, List.cons_append, List.append_nil, Option.map, mapO, ren, kp, kpI, ent, nilG, Option.bind, List.range, List.range.loop, List.getElem?_cons_zero, List.getElem?_cons_succ, List.getElem?_nil, List.getD_cons_zero, List.getD_cons_succ, List.drop_zero, List.drop_succ_cons, List.drop_nil, List.take_zero, List.take_succ_cons, List.all_cons, List.all_nil, List.isEmpty_nil, List.isEmpty_cons, Bool.and_true, Bool.true_and, Bool.not_true, Bool.not_false, List.contains_nil, reduceCtorEq, List.contains_cons, Bool.or_false, Bool.false_or, eq_self, forall_const, false_implies, Bool.false_eq_true, Nat.le_refl, List.length_map, List.length_set, List.length_replicate, and_self, implies_true]
        simp only [Bool.false_eq_true, renObj, finP, finI, closeIds, addNew, idsOf, List.flatMap_nil, List.flatMap_cons, List.append_nil, List.nil_append, List.take_zero, nodupB, posOf, idsObj, List.getD_cons_zero, List.getD_cons_succ, List.range, List.range.loop, ren, lentO, mapO, Option.map, ↓reduceIte, Nat.reduceEqDiff, true_and, and_true, List.getElem?_cons_zero, List.getElem?_cons_succ, Nat.reduceAdd, List.contains_nil, Bool.not_false, Bool.and_true, List.map_nil, List.map_cons, List.take_succ_cons]
        (first | omega | (simp only [lenOk, bytesOk, inI, IntKind.bits, List.length_append, Bs_len, List.length_cons, List.length_nil, List.length_map, List.length_take, List.length_drop, List.length_replicate]; omega))
      · have d2 : decide (-(cur : Int) < 0) = true := decide_eq_true (by omega)
        have e1 : (-(cur : Int)).tmod 10 = -((cur % 10 : Nat) : Int) := by rw [Int.neg_tmod, show (10 : Int) = ((10 : Nat) : Int) from rfl, tmod_nat]
        have e2 : (-(cur : Int)).tdiv 10 = -((cur / 10 : Nat) : Int) := by rw [Int.neg_tdiv, show (10 : Int) = ((10 : Nat) : Int) from rfl, tdiv_nat]
        have e3 : 48 - -((cur % 10 : Nat) : Int) = ((48 + cur % 10 : Nat) : Int) := by omega
        simp only [b_rdec_0, d2, e1, e2, e3, wrap8n (show 48 + cur % 10 < 256 by omega), Bs_o8 _ (show 48 + cur % 10 < 256 by omega), unB_Bs, awp_scope, noG_n, noG_r, noG_x, awp_skip, awp_reg, awp_draw, awp_seq, awp_cond, awp_block, awp_loop, awp_exit, awp_ret, arun_nil, arun_op, arun_gt, arun_gf, arunD_nil, arunD_op, arunD_gt, arunD_gf, aq_some, isB_t, isB_u, isB_f, isB_g, isB_p, isU_t, isU_b, ifB_t, ifB_f, thenQ_n, thenQ_x, thenQ_r, inQ_n, inQ_r, inQ_x, retQ_n, retQ_r, exD, AOp.isH, keepN, preB, avalP, pureR, astep, stV, stN, stE, stC, aval, anew, aElems, frzS, frzH, aeff, slots, aret, ares, aress, AV.isTup, eqFs, aEqS, ofC_i, ofC_b, ofC_s, ofC_U, getD_mapU, getD_Bs, Bs_len, Int.toNat_natCast, opd, pt, tk, subp, rdP, Rt.size, Rt.isAgg, Rt.zv, aBin, aInt, aStr, arI, aUn, aToInt, aToStr, aIdxS, zv, aIdxA, aIa, aIaA, aFa, aLd, aFld, pparts, aLo, aHi, cutL, aSlS, aSl, aExt, aNck, aNilc, AV.isStr, aLen, AV.one, AV.multi, pureB, szOk, psz, drp, spl, aEqB, aEqA, aMm, aMkfn, aMkif, aBuild, toV, aBuildA, wrP, unparts, view, nilS, St.ev, lk, St.put, St.pin, St.pinV, acall0, acall1, acall2, acall3, bor, bor0, bor1, phiL_nil, phiL_at, tau, lentO, okIds, flatC, flatB, flatOs, flatO, flatPs, place, setAll_nil, setAll_cons, nodupB, renObj, closeIds, addNew, idsOf, idsObj, posOf, lenOk_0, lenOk_1, lenOk_2, lenOk_3, lenOk_4, lenOk_8, ↓reduceIte, Option.isSome_none, Option.isSome_some, Bool.or_true, Bool.true_or,  Nat.reduceEqDiff, Nat.reduceBEq, Nat.reduceSub, Nat.reduceLT, beq_self_eq_true, List.map, List.set, List.map_cons, List.map_nil, List.flatMap_cons, List.flatMap_nil, List.flatten_cons, List.flatten_nil, true_and, and_true, List.length_cons, List.length_nil, Nat.reduceAdd, Nat.reduceLeDiff, List.nil_append, List.cons_append, List.append_nil, Option.map, mapO, ren, kp, kpI, ent, nilG, Option.bind, List.range, List.range.loop, List.getElem?_cons_zero, List.getElem?_cons_succ, List.getElem?_nil, List.getD_cons_zero, List.getD_cons_succ, List.drop_zero, List.drop_succ_cons, List.drop_nil, List.take_zero, List.take_succ_cons, List.all_cons, List.all_nil, List.isEmpty_nil, List.isEmpty_cons, Bool.and_true, Bool.true_and, Bool.not_true, Bool.not_false, List.contains_nil, reduceCtorEq, List.contains_cons, Bool.or_false, Bool.false_or, eq_self, forall_const, false_implies, Bool.false_eq_true, Nat.le_refl, List.length_map, List.length_set, List.length_replicate, and_self, implies_true]
        refine ⟨by omega, by (first | omega | (simp only [lenOk, bytesOk, inI, IntKind.bits, List.length_append, Bs_len, List.length_cons, List.length_nil, List.length_map, List.length_take, List.length_drop, List.length_replicate]; omega)), by (first | omega | (simp only [lenOk, bytesOk, inI, IntKind.bits, List.length_append, Bs_len, List.length_cons, List.length_nil, List.length_map, List.length_take, List.length_drop, List.length_replicate]; omega)), ⟨by omega, by (first | omega | (simp only [lenOk, bytesOk, inI, IntKind.bits, List.length_append, Bs_len, List.length_cons, List.length_nil, List.length_map, List.length_take, List.length_drop, List.length_replicate]; omega))⟩, (cur / 10, o8 (48 + cur % 10) :: s), ⟨?_, by simp only; omega⟩, by simp only; omega, rfl⟩
        rw [decP_step (by omega), List.append_assoc] at ha
        exact ha
    · have d1 : decide (n < 0) = false := decide_eq_false hneg
      obtain ⟨m, rfl⟩ : ∃ m : Nat, n = (m : Int) := ⟨n.natAbs, by omega⟩
      have hit : itoa (m : Int) = decDigits m := itoa_nat m
      have hlen := decD_pow 18 m (by omega)
      have e1 : ∀ c : Nat, (c : Int).tmod 10 = ((c % 10 : Nat) : Int) := fun c => tmod_nat c 10
      have e2 : ∀ c : Nat, (c : Int).tdiv 10 = ((c / 10 : Nat) : Int) := fun c => tdiv_nat c 10
      have e3 : ∀ c : Nat, 48 + ((c % 10 : Nat) : Int) = ((48 + c % 10 : Nat) : Int) := fun c => by omega
      simp only [c_rdec, t_rdec_1, d1, e1, e2, e3, wrap8n (show 48 + m % 10 < 256 by omega), Bs_o8 _ (show 48 + m % 10 < 256 by omega), unB_Bs, awp_scope, noG_n, noG_r, noG_x, awp_skip, awp_reg, awp_draw, awp_seq, awp_cond, awp_block, awp_loop, awp_exit, awp_ret, arun_nil, arun_op, arun_gt, arun_gf, arunD_nil, arunD_op, arunD_gt, arunD_gf, aq_some, isB_t, isB_u, isB_f, isB_g, isB_p, isU_t, isU_b, ifB_t, ifB_f, thenQ_n, thenQ_x, thenQ_r, inQ_n, inQ_r, inQ_x, retQ_n, retQ_r, exD, AOp.isH, keepN, preB, avalP, pureR, astep, stV, stN, stE, stC, aval, anew, aElems, frzS, frzH, aeff, slots, aret, ares, aress, AV.isTup, eqFs, aEqS, ofC_i, ofC_b, ofC_s, ofC_U, getD_mapU, getD_Bs, Bs_len, Int.toNat_natCast, opd, pt, tk, subp, rdP, Rt.size, Rt.isAgg, Rt.zv, aBin, aInt, aStr, arI, aUn, aToInt, aToStr, aIdxS, zv, aIdxA, aIa, aIaA, aFa, aLd, aFld, pparts, aLo, aHi, cutL, aSlS, aSl, aExt, aNck, aNilc, AV.isStr, aLen, AV.one, AV.multi, pureB, szOk, psz, drp, spl, aEqB, aEqA, aMm, aMkfn, aMkif, aBuild, toV, aBuildA, wrP, unparts, view, nilS, St.ev, lk, St.put, St.pin, St.pinV, acall0, acall1, acall2, acall3, bor, bor0, bor1, phiL_nil, phiL_at, tau, lentO, okIds, flatC, flatB, flatOs, flatO, flatPs, place, setAll_nil, setAll_cons, nodupB, renObj, closeIds, addNew, idsOf, idsObj, posOf, lenOk_0, lenOk_1, lenOk_2, lenOk_3, lenOk_4, lenOk_8, ↓reduceIte, Option.isSome_none, Option.isSome_some, Bool.or_true, Bool.true_or,  Nat.reduceEqDiff, Nat.reduceBEq, Nat.reduceSub, Nat.reduceLT, beq_self_eq_true, List.map, List.set, List.map_cons, List.map_nil, List.flatMap_cons, List.flatMap_nil, List.flatten_cons, List.flatten_nil, true_and, and_true, List.length_cons, List.length_nil, Nat.reduceAdd, Nat.reduceLeDiff, List.nil_append, List.cons_append, List.append_nil, Option.map, mapO, ren, kp, kpI, ent, nilG, Option.bind, List.range, List.range.loop, List.getElem?_cons_zero, List.getElem?_cons_succ, List.getElem?_nil, List.getD_cons_zero, List.getD_cons_succ, List.drop_zero, List.drop_succ_cons, List.drop_nil, List.take_zero, List.take_succ_cons, List.all_cons, List.all_nil, List.isEmpty_nil, List.isEmpty_cons, Bool.and_true, Bool.true_and, Bool.not_true, Bool.not_false, List.contains_nil, reduceCtorEq, List.contains_cons, Bool.or_false, Bool.false_or, eq_self, forall_const, false_implies, Bool.false_eq_true, Nat.le_refl, List.length_map, List.length_set, List.length_replicate, and_self, implies_true]
      refine ⟨by omega, by (first | omega | (simp only [lenOk, bytesOk, inI, IntKind.bits, List.length_append, Bs_len, List.length_cons, List.length_nil, List.length_map, List.length_take, List.length_drop, List.length_replicate]; omega)), ⟨by omega, by (first | omega | (simp only [lenOk, bytesOk, inI, IntKind.bits, List.length_append, Bs_len, List.length_cons, List.length_nil, List.length_map, List.length_take, List.length_drop, List.length_replicate]; omega))⟩, ?_⟩
      refine loop_at [] [0, 4] [] (fun a : Nat × List UInt8 => ⟨[(0, .int .i64 (a.1 : Int)), (4, .str a.2)], []⟩) (fun a => decP a.1 ++ a.2 = decDigits m ∧ a.1 ≤ m) (fun a => a.1) (m / 10, [o8 (48 + m % 10)]) rfl ⟨decD_last m, by simp only; omega⟩ ⟨rfl, rfl⟩ (fun a ha => ?_)
      obtain ⟨cur, s⟩ := a
      obtain ⟨ha, hb⟩ := ha
      simp only at ha hb
      have hl := congrArg List.length ha
      rw [List.length_append] at hl
      by_cases hc : cur = 0
      · subst hc
        have d2 : decide ((0 : Int) < ((0 : Nat) : Int)) = false := decide_eq_false (by omega)
        rw [decP_0, List.nil_append] at ha
        subst ha
        simp only [b_rdec_1, t_rdec_0, r_rdec, d2, hit, awp_scope, noG_n, noG_r, noG_x, awp_skip, awp_reg, awp_draw, awp_seq, awp_cond, awp_block, awp_loop, awp_exit, awp_ret, arun_nil, arun_op, arun_gt, arun_gf, arunD_nil, arunD_op, arunD_gt, arunD_gf, aq_some, isB_t, isB_u, isB_f, isB_g, isB_p, isU_t, isU_b, ifB_t, ifB_f, thenQ_n, thenQ_x, thenQ_r, inQ_n, inQ_r, inQ_x, retQ_n, retQ_r, exD, AOp.isH, keepN, preB, avalP, pureR, astep, stV, stN, stE, stC, aval, anew, aElems, frzS, frzH, aeff, slots, aret, ares, aress, AV.isTup, eqFs, aEqS, ofC_i, ofC_b, ofC_s, ofC_U, getD_mapU, getD_Bs, Bs_len, Int.toNat_natCast, opd, pt, tk, subp, rdP, Rt.size, Rt.isAgg, Rt.zv, aBin, aInt, aStr, arI, aUn, aToInt, aToStr, aIdxS, zv, aIdxA, aIa, aIaA, aFa, aLd, aFld, pparts, aLo, aHi, cutL, aSlS, aSl, aExt, aNck, aNilc, AV.isStr, aLen, AV.one, AV.multi, pureB, szOk, psz, drp, spl, aEqB, aEqA, aMm, aMkfn, aMkif, aBuild, toV, aBuildA, wrP, unparts, view, nilS, St.ev, lk, St.put, St.pin, St.pinV, acall0, acall1, acall2, acall3, bor, bor0, bor1, phiL_nil, phiL_at, tau, lentO, okIds, flatC, flatB, flatOs, flatO, flatPs, place, setAll_nil, setAll_cons, nodupB, renObj, closeIds, addNew, idsOf, idsObj, posOf, lenOk_0, lenOk_1, lenOk_2, lenOk_3, lenOk_4, lenOk_8, ↓reduceIte, Option.isSome_none, Option.isSome_some, Bool.or_true, Bool.true_or,  Nat.reduceEqDiff, Nat.reduceBEq, Nat.reduceSub, Nat.reduceLT, beq_self_eq_true, List.map, List.set, List.map_cons, List.map_nil, List.flatMap_cons, List.flatMap_nil, List.flatten_cons, List.flatten_nil, true_and, and_true, List.length_cons, List.length_nil, Nat.reduceAdd, Nat.reduceLeDiff, List.nil_append, List.cons_append, List.append_nil, Option.map, mapO, ren, kp, kpI, ent, nilG, Option.bind, List.range, List.range.loop, List.getElem?_cons_zero, List.getElem?_cons_succ, List.getElem?_nil, List.getD_cons_zero, List.getD_cons_succ, List.drop_zero, List.drop_succ_cons, List.drop_nil, List.take_zero, List.take_succ_cons, List.all_cons, List.all_nil, List.isEmpty_nil, List.isEmpty_cons, Bool.and_true, Bool.true_and, Bool.not_true, Bool.not_false, List.contains_nil, reduceCtorEq, List.contains_cons, Bool.or_false, Bool.false_or, eq_self, forall_const, false_implies, Bool.false_eq_true, Nat.le_refl, List.length_map, List.length_set, List.length_replicate, and_self, implies_true]
        simp only [Bool.false_eq_true, renObj, finP, finI, closeIds, addNew, idsOf, List.flatMap_nil, List.flatMap_cons, List.append_nil, List.nil_append, List.take_zero, nodupB, posOf, idsObj, List.getD_cons_zero, List.getD_cons_succ, List.range, List.range.loop, ren, lentO, mapO, Option.map, ↓reduceIte, Nat.reduceEqDiff, true_and, and_true, List.getElem?_cons_zero, List.getElem?_cons_succ, Nat.reduceAdd, List.contains_nil, Bool.not_false, Bool.and_true, List.map_nil, List.map_cons, List.take_succ_cons]
      · have d2 : decide ((0 : Int) < (cur : Int)) = true := decide_eq_true (by omega)
        simp only [b_rdec_1, d2, e1, e2, e3, wrap8n (show 48 + cur % 10 < 256 by omega), Bs_o8 _ (show 48 + cur % 10 < 256 by omega), unB_Bs, awp_scope, noG_n, noG_r, noG_x, awp_skip, awp_reg, awp_draw, awp_seq, awp_cond, awp_block, awp_loop, awp_exit, awp_ret, arun_nil, arun_op, arun_gt, arun_gf, arunD_nil, arunD_op, arunD_gt, arunD_gf, aq_some, isB_t, isB_u, isB_f, isB_g, isB_p, isU_t, isU_b, ifB_t, ifB_f, thenQ_n, thenQ_x, thenQ_r, inQ_n, inQ_r, inQ_x, retQ_n, retQ_r, exD, AOp.isH, keepN, preB, avalP, pureR, astep, stV, stN, stE, stC, aval, anew, aElems, frzS, frzH, aeff, slots, aret, ares, aress, AV.isTup, eqFs, aEqS, ofC_i, ofC_b, ofC_s, ofC_U, getD_mapU, getD_Bs, Bs_len, Int.toNat_natCast, opd, pt, tk, subp, rdP, Rt.size, Rt.isAgg, Rt.zv, aBin, aInt, aStr, arI, aUn, aToInt, aToStr, aIdxS, zv, aIdxA, aIa, aIaA, aFa, aLd, aFld, pparts, aLo, aHi, cutL, aSlS, aSl, aExt, aNck, aNilc, AV.isStr, aLen, AV.one, AV.multi, pureB, szOk, psz, drp, spl, aEqB, aEqA, aMm, aMkfn, aMkif, aBuild, toV, aBuildA, wrP, unparts, view, nilS, St.ev, lk, St.put, St.pin, St.pinV, acall0, acall1, acall2, acall3, bor, bor0, bor1, phiL_nil, phiL_at, tau, lentO, okIds, flatC, flatB, flatOs, flatO, flatPs, place, setAll_nil, setAll_cons, nodupB, renObj, closeIds, addNew, idsOf, idsObj, posOf, lenOk_0, lenOk_1, lenOk_2, lenOk_3, lenOk_4, lenOk_8, ↓reduceIte, Option.isSome_none, Option.isSome_some, Bool.or_true, Bool.true_or,  Nat.reduceEqDiff, Nat.reduceBEq, Nat.reduceSub, Nat.reduceLT, beq_self_eq_true, List.map, List.set, List.map_cons, List.map_nil, List.flatMap_cons, List.flatMap_nil, List.flatten_cons, List.flatten_nil, true_and, and_true, List.length_cons, List.length_nil, Nat.reduceAdd, Nat.reduceLeDiff, List.nil_append, List.cons_append, List.append_nil, Option.map, mapO, ren, kp, kpI, ent, nilG, Option.bind, List.range, List.range.loop, List.getElem?_cons_zero, List.getElem?_cons_succ, List.getElem?_nil, List.getD_cons_zero, List.getD_cons_succ, List.drop_zero, List.drop_succ_cons, List.drop_nil, List.take_zero, List.take_succ_cons, List.all_cons, List.all_nil, List.isEmpty_nil, List.isEmpty_cons, Bool.and_true, Bool.true_and, Bool.not_true, Bool.not_false, List.contains_nil, reduceCtorEq, List.contains_cons, Bool.or_false, Bool.false_or, eq_self, forall_const, false_implies, Bool.false_eq_true, Nat.le_refl, List.length_map, List.length_set, List.length_replicate, and_self, implies_true]
        refine ⟨by omega, by (first | omega | (simp only [lenOk, bytesOk, inI, IntKind.bits, List.length_append, Bs_len, List.length_cons, List.length_nil, List.length_map, List.length_take, List.length_drop, List.length_replicate]; omega)), by (first | omega | (simp only [lenOk, bytesOk, inI, IntKind.bits, List.length_append, Bs_len, List.length_cons, List.length_nil, List.length_map, List.length_take, List.length_drop, List.length_replicate]; omega)), ⟨by omega, by (first | omega | (simp only [lenOk, bytesOk, inI, IntKind.bits, List.length_append, Bs_len, List.length_cons, List.length_nil, List.length_map, List.length_take, List.length_drop, List.length_replicate]; omega))⟩, (cur / 10, o8 (48 + cur % 10) :: s), ⟨?_, by simp only; omega⟩, by simp only; omega, rfl⟩
        rw [decP_step (by omega), List.append_assoc] at ha
        exact ha
  · cases hs
end Go.Proofs.YtlkaaoekbmegkaaGreatDoor
namespace Go.Proofs.YtlkaaoekbmegkaaGreatDoor
set_option linter.all false
open Go.RowKit
open Go.Lib (index hasPrefix cut indexAny itoa)
theorem hasL_iff (p s : List UInt8) : hasL p s = true ↔ ∃ x ∈ s, x ∈ p := by unfold hasL; simp
theorem at8_eq {l m : List UInt8} {i j : Nat} (hi : i < l.length) (hj : j < m.length) : (at8 l i = at8 m j) ↔ l[i] = m[j] := by
  unfold at8
  rw [List.getD_eq_getElem?_getD, List.getD_eq_getElem?_getD, List.getElem?_eq_getElem hi, List.getElem?_eq_getElem hj]
  simp only [Option.getD_some]
  constructor
  · intro h; exact UInt8.toNat_inj.1 (by omega)
  · intro h; rw [h]
theorem at8_lit {l : List UInt8} {i : Nat} (hi : i < l.length) : at8 l i = ((l[i]).toNat : Int) := by
  unfold at8
  rw [List.getD_eq_getElem?_getD, List.getElem?_eq_getElem hi]; rfl
theorem take_mem {l : List UInt8} {i : Nat} {x : UInt8} (hi : i < l.length) : x ∈ l.take (i + 1) ↔ x ∈ l.take i ∨ x = l[i] := by
  rw [List.take_add_one, List.getElem?_eq_getElem hi, Option.toList_some, List.mem_append, List.mem_singleton]
def rhasS : Spec := fun xs hp => match xs, hp with
  | [.str s, .str p], [] => some ⟨.bool (hasL p s), [], s.length ≤ 1000000000000 ∧ p.length ≤ 1000000000000⟩
  | _, _ => none
theorem rhas_ok : FnOk Tryz.prog 42 rhasS := by
  refine fn_slim2 Tryz.func42 s_rhas (Φ := phiL []) phi_nil ?_
  intro xs hp r hs hp'
  unfold rhasS at hs
  split at hs
  · injection hs with hs; subst hs
    rename_i s p
    obtain ⟨p1, p2⟩ := hp'
    refine ⟨len_le (by kernel_rfl), ?_⟩
    simp only [c_rhas, go_sem, Nat.reduceDiv, Nat.reduceMod, ↓reduceIte, Nat.reduceEqDiff, Nat.reduceBEq, Nat.reduceSub, Nat.reduceLT, Nat.reduceAdd, Nat.reduceLeDiff, reduceCtorEq, Int.reduceEq, Int.reduceNe, Int.reduceLT, Int.reduceLE, Int.reduceToNat]
    refine loop2P [] [0, 1, 5] [] (fun i : Nat => ⟨[(0, .str s), (1, .str p), (5, .int .i64 (i : Int))], []⟩) (fun i => i ≤ s.length ∧ ∀ x ∈ s.take i, x ∉ p) (fun i => s.length - i) 0 rfl ⟨by omega, by simp⟩ ⟨rfl, rfl⟩ (fun i hi R hR => ?_)
    obtain ⟨i1, i2⟩ := hi
    by_cases hil : i < s.length
    · have c1 : decide ((i : Int) < (s.length : Int)) = true := decide_eq_true (by omega)
      simp only [b_rhas_1, c1, go_sem, Nat.reduceDiv, Nat.reduceMod, ↓reduceIte, Nat.reduceEqDiff, Nat.reduceBEq, Nat.reduceSub, Nat.reduceLT, Nat.reduceAdd, Nat.reduceLeDiff, reduceCtorEq, Int.reduceEq, Int.reduceNe, Int.reduceLT, Int.reduceLE, Int.reduceToNat]
      refine loop2P [] [0, 1, 5, 6] [] (fun k : Nat => ⟨[(0, .str s), (1, .str p), (5, .int .i64 (i : Int)), (6, .int .i64 (k : Int))], []⟩) (fun k => k ≤ p.length ∧ s[i] ∉ p.take k) (fun k => p.length - k) 0 rfl ⟨by omega, by simp⟩ ⟨rfl, rfl⟩ (fun k hk R2 hR2 => ?_)
      obtain ⟨k1, k2⟩ := hk
      by_cases hkl : k < p.length
      · have c2 : decide ((k : Int) < (p.length : Int)) = true := decide_eq_true (by omega)
        have hh := at8_eq hil hkl
        simp only [b_rhas_0, r_rhas, c2, Int.toNat_natCast, go_sem, Nat.reduceDiv, Nat.reduceMod, ↓reduceIte, Nat.reduceEqDiff, Nat.reduceBEq, Nat.reduceSub, Nat.reduceLT, Nat.reduceAdd, Nat.reduceLeDiff, reduceCtorEq, Int.reduceEq, Int.reduceNe, Int.reduceLT, Int.reduceLE, Int.reduceToNat]
        refine ⟨⟨by omega, by omega⟩, ⟨by omega, by omega⟩, fun h => ?_, fun h => ⟨⟨by omega, by omega⟩, hR2 _ (k + 1) ⟨by omega, fun hm => ?_⟩ (by omega) rfl⟩⟩
        · have h := hh.1 (of_decide_eq_true h)
          have : hasL p s = true := (hasL_iff p s).2 ⟨s[i], List.getElem_mem _, by rw [h]; exact List.getElem_mem _⟩
          rw [this]
        · have h := of_decide_eq_false h
          rcases (take_mem hkl).1 hm with hm | hm
          · exact k2 hm
          · exact h (hh.2 hm)
      · have c2 : decide ((k : Int) < (p.length : Int)) = false := decide_eq_false (by omega)
        have e : p.take k = p := List.take_of_length_le (by omega)
        rw [e] at k2
        simp only [b_rhas_0, t_rhas_0, r_rhas, c2, go_sem, Nat.reduceDiv, Nat.reduceMod, ↓reduceIte, Nat.reduceEqDiff, Nat.reduceBEq, Nat.reduceSub, Nat.reduceLT, Nat.reduceAdd, Nat.reduceLeDiff, reduceCtorEq, Int.reduceEq, Int.reduceNe, Int.reduceLT, Int.reduceLE, Int.reduceToNat]
        refine ⟨⟨by omega, by omega⟩, hR _ (i + 1) ⟨by omega, fun x hx => ?_⟩ (by omega) rfl⟩
        rcases (take_mem hil).1 hx with hx | rfl
        · exact i2 x hx
        · exact k2
    · have c1 : decide ((i : Int) < (s.length : Int)) = false := decide_eq_false (by omega)
      have e : s.take i = s := List.take_of_length_le (by omega)
      rw [e] at i2
      have : hasL p s = false := by
        rw [Bool.eq_false_iff]; intro h
        obtain ⟨x, hx, hxp⟩ := (hasL_iff p s).1 h
        exact i2 x hx hxp
      rw [this]
      simp only [b_rhas_1, t_rhas_1, r_rhas, c1, go_sem, Nat.reduceDiv, Nat.reduceMod, ↓reduceIte, Nat.reduceEqDiff, Nat.reduceBEq, Nat.reduceSub, Nat.reduceLT, Nat.reduceAdd, Nat.reduceLeDiff, reduceCtorEq, Int.reduceEq, Int.reduceNe, Int.reduceLT, Int.reduceLE, Int.reduceToNat]
  · cases hs
theorem hasL_app (p a b : List UInt8) : hasL p (a ++ b) = (hasL p a || hasL p b) := by unfold hasL; rw [List.any_append]
def rpersonS : Spec := fun xs hp => match xs, hp with
  | [.agg [(1, .str n), (1, .str m), (1, .int .i64 t), (1, .str z)]], [] => some ⟨.bool (rightW ⟨n, m, t, z⟩), [], n.length ≤ 1000000000000 ∧ m.length ≤ 1000000000000 ∧ z.length ≤ 1000000000000⟩
  | _, _ => none
set_option maxHeartbeats 2000000 in
theorem rperson_ok : FnOk Tryz.prog 16 rpersonS := by
  refine fn_slim2 Tryz.func16 s_rperson (Φ := phiL [(42, [], rhasS)]) (phi_cons rhas_ok (by kernel_rfl) phi_nil) ?_
  intro xs hp r hs hp'
  unfold rpersonS at hs
  split at hs
  · injection hs with hs; subst hs
    rename_i n m t z
    obtain ⟨p1, p2, p3⟩ := hp'
    refine ⟨len_le (by kernel_rfl), ?_⟩
    have hr : rightW ⟨n, m, t, z⟩ = (!(hasL [60, 62, 10] n || hasL [60, 62, 10] m) && decide (0 ≤ t) && decide (t < 4611686018427387904) && zonB z) := by unfold rightW; rw [hasL_app]
    rw [hr]
    have no : ∀ b : Bool, b = false → (retQ2 r_rperson 0 (⟨.bool b, [], True⟩ : Ret)) = (retQ2 r_rperson 0 (⟨.bool false, [], True⟩ : Ret)) := fun b h => by rw [h]
    cases h1 : hasL [60, 62, 10] n with
    | true =>
      simp only [c_rperson, r_rperson, rhasS, h1, Bool.true_or, Bool.not_true, Bool.false_and, go_sem, Nat.reduceDiv, Nat.reduceMod, ↓reduceIte, Nat.reduceEqDiff, Nat.reduceBEq, Nat.reduceSub, Nat.reduceLT, Nat.reduceAdd, Nat.reduceLeDiff, reduceCtorEq, Int.reduceEq, Int.reduceNe, Int.reduceLT, Int.reduceLE, Int.reduceToNat]
      exact p1
    | false =>
    cases h2 : hasL [60, 62, 10] m with
    | true =>
      simp only [c_rperson, r_rperson, rhasS, h1, h2, Bool.true_or, Bool.or_true, Bool.not_true, Bool.false_and, go_sem, Nat.reduceDiv, Nat.reduceMod, ↓reduceIte, Nat.reduceEqDiff, Nat.reduceBEq, Nat.reduceSub, Nat.reduceLT, Nat.reduceAdd, Nat.reduceLeDiff, reduceCtorEq, Int.reduceEq, Int.reduceNe, Int.reduceLT, Int.reduceLE, Int.reduceToNat]
      exact ⟨p1, p2⟩
    | false =>
    by_cases h3 : t < 0
    · have d3 : decide (t < 0) = true := decide_eq_true h3
      have d4 : decide (0 ≤ t) = false := decide_eq_false (by omega)
      simp only [c_rperson, r_rperson, rhasS, h1, h2, d3, d4, Bool.and_false, Bool.false_and, go_sem, Nat.reduceDiv, Nat.reduceMod, ↓reduceIte, Nat.reduceEqDiff, Nat.reduceBEq, Nat.reduceSub, Nat.reduceLT, Nat.reduceAdd, Nat.reduceLeDiff, reduceCtorEq, Int.reduceEq, Int.reduceNe, Int.reduceLT, Int.reduceLE, Int.reduceToNat]
      exact ⟨p1, p2⟩
    · have d3 : decide (t < 0) = false := decide_eq_false h3
      have d4 : decide (0 ≤ t) = true := decide_eq_true (by omega)
      by_cases h4 : 4611686018427387904 ≤ t
      · have d5 : decide (4611686018427387904 ≤ t) = true := decide_eq_true h4
        have d6 : decide (t < 4611686018427387904) = false := decide_eq_false (by omega)
        simp only [c_rperson, r_rperson, rhasS, h1, h2, d3, d4, d5, d6, Bool.and_false, Bool.false_and, go_sem, Nat.reduceDiv, Nat.reduceMod, ↓reduceIte, Nat.reduceEqDiff, Nat.reduceBEq, Nat.reduceSub, Nat.reduceLT, Nat.reduceAdd, Nat.reduceLeDiff, reduceCtorEq, Int.reduceEq, Int.reduceNe, Int.reduceLT, Int.reduceLE, Int.reduceToNat]
        exact ⟨p1, p2⟩
      · have d5 : decide (4611686018427387904 ≤ t) = false := decide_eq_false h4
        have d6 : decide (t < 4611686018427387904) = true := decide_eq_true (by omega)
        unfold zonB
        by_cases h5 : z.length = 5
        · have d7 : decide ((z.length : Int) = 5) = true := decide_eq_true (by omega)
          have e5 : decide (z.length = 5) = true := decide_eq_true h5
          have e1 : decide (at8 z 0 = 43) = decide ((z.getD 0 0).toNat = 43) := by unfold at8; rw [Bool.eq_iff_iff]; simp; omega
          have e2 : decide (at8 z 0 = 45) = decide ((z.getD 0 0).toNat = 45) := by unfold at8; rw [Bool.eq_iff_iff]; simp; omega
          have dg : ∀ i (h : i < z.length), digB z[i] = true ↔ ¬ (at8 z i < 48) ∧ ¬ (57 < at8 z i) := by
            intro i h
            rw [at8_lit h]
            unfold digB
            simp; omega
          have allT : (∀ i (h : i < z.length), 1 ≤ i → digB z[i] = true) → (z.drop 1).all digB = true := by
            intro h
            rw [List.all_eq_true]
            intro x hx
            obtain ⟨j, hj, rfl⟩ := List.getElem_of_mem hx
            rw [List.getElem_drop]
            exact h _ _ (by omega)
          have allF : ∀ i (h : i < z.length), 1 ≤ i → digB z[i] = false → (z.drop 1).all digB = false := by
            intro i h h1 hf
            rw [List.all_eq_false]
            refine ⟨z[i], ?_, by rw [hf]; simp⟩
            have : z[i] = (z.drop 1)[i - 1]'(by rw [List.length_drop]; omega) := by rw [List.getElem_drop]; congr 1; omega
            rw [this]; exact List.getElem_mem _
          cases h6 : decide ((z.getD 0 0).toNat = 43) <;> cases h7 : decide ((z.getD 0 0).toNat = 45) <;> rw [h6] at e1 <;> rw [h7] at e2
          · simp only [c_rperson, r_rperson, rhasS, h1, h2, d3, d4, d5, d6, d7, e1, e2, e5, h5, Bool.and_false, Bool.false_and, Bool.or_self, go_sem, Nat.reduceDiv, Nat.reduceMod, ↓reduceIte, Nat.reduceEqDiff, Nat.reduceBEq, Nat.reduceSub, Nat.reduceLT, Nat.reduceAdd, Nat.reduceLeDiff, reduceCtorEq, Int.reduceEq, Int.reduceNe, Int.reduceLT, Int.reduceLE, Int.reduceToNat]
            exact ⟨p1, p2⟩
          all_goals (
            simp only [c_rperson, rhasS, h1, h2, d3, d4, d5, d6, d7, e1, e2, e5, h5, Bool.and_false, Bool.false_and, Bool.or_self, Bool.true_or, Bool.or_true, Bool.not_false, Bool.true_and, go_sem, Nat.reduceDiv, Nat.reduceMod, ↓reduceIte, Nat.reduceEqDiff, Nat.reduceBEq, Nat.reduceSub, Nat.reduceLT, Nat.reduceAdd, Nat.reduceLeDiff, reduceCtorEq, Int.reduceEq, Int.reduceNe, Int.reduceLT, Int.reduceLE, Int.reduceToNat]
            refine ⟨p1, p2, ?_⟩
            refine loop2P [] [1, 3] [0] (fun i : Nat => ⟨[(1, .ref 0 0 0), (3, .int .i64 (i : Int))], [.cells 25 [(1, .str n), (1, .str m), (1, .int .i64 t), (1, .str z)]]⟩) (fun i => 1 ≤ i ∧ i ≤ 5 ∧ ∀ j (h : j < z.length), 1 ≤ j → j < i → digB z[j] = true) (fun i => 5 - i) 1 rfl ⟨by omega, by omega, fun j h h1 h2 => by omega⟩ ⟨rfl, by rfl⟩ (fun i hi R hR => ?_)
            obtain ⟨i1, i2, i3⟩ := hi
            by_cases hil : i < 5
            · have c1 : decide ((i : Int) < 5) = true := decide_eq_true (by omega)
              have hd := dg i (by omega)
              cases g1 : decide (at8 z i < 48) with
              | true =>
                have hf := allF i (by omega) i1 (by rw [Bool.eq_false_iff]; intro h; exact (hd.1 h).1 (of_decide_eq_true g1))
                rw [hf]
                simp only [b_rperson_0, r_rperson, c1, g1, Int.toNat_natCast, h5, go_sem, Nat.reduceDiv, Nat.reduceMod, ↓reduceIte, Nat.reduceEqDiff, Nat.reduceBEq, Nat.reduceSub, Nat.reduceLT, Nat.reduceAdd, Nat.reduceLeDiff, reduceCtorEq, Int.reduceEq, Int.reduceNe, Int.reduceLT, Int.reduceLE, Int.reduceToNat]
                omega
              | false =>
                cases g2 : decide (57 < at8 z i) with
                | true =>
                  have hf := allF i (by omega) i1 (by rw [Bool.eq_false_iff]; intro h; exact (hd.1 h).2 (of_decide_eq_true g2))
                  rw [hf]
                  simp only [b_rperson_0, r_rperson, c1, g1, g2, Int.toNat_natCast, h5, go_sem, Nat.reduceDiv, Nat.reduceMod, ↓reduceIte, Nat.reduceEqDiff, Nat.reduceBEq, Nat.reduceSub, Nat.reduceLT, Nat.reduceAdd, Nat.reduceLeDiff, reduceCtorEq, Int.reduceEq, Int.reduceNe, Int.reduceLT, Int.reduceLE, Int.reduceToNat]
                  omega
                | false =>
                  simp only [b_rperson_0, r_rperson, c1, g1, g2, Int.toNat_natCast, h5, go_sem, Nat.reduceDiv, Nat.reduceMod, ↓reduceIte, Nat.reduceEqDiff, Nat.reduceBEq, Nat.reduceSub, Nat.reduceLT, Nat.reduceAdd, Nat.reduceLeDiff, reduceCtorEq, Int.reduceEq, Int.reduceNe, Int.reduceLT, Int.reduceLE, Int.reduceToNat]
                  refine ⟨by omega, by omega, ⟨by omega, by omega⟩, hR _ (i + 1) ⟨by omega, by omega, fun j h j1 j2 => ?_⟩ (by omega) rfl⟩
                  rcases Nat.lt_or_ge j i with hj | hj
                  · exact i3 j h j1 hj
                  · have : j = i := by omega
                    subst this
                    exact hd.2 ⟨of_decide_eq_false g1, of_decide_eq_false g2⟩
            · have c1 : decide ((i : Int) < 5) = false := decide_eq_false (by omega)
              rw [allT fun j h j1 => i3 j h j1 (by omega)]
              simp only [b_rperson_0, t_rperson_0, r_rperson, c1, go_sem, Nat.reduceDiv, Nat.reduceMod, ↓reduceIte, Nat.reduceEqDiff, Nat.reduceBEq, Nat.reduceSub, Nat.reduceLT, Nat.reduceAdd, Nat.reduceLeDiff, reduceCtorEq, Int.reduceEq, Int.reduceNe, Int.reduceLT, Int.reduceLE, Int.reduceToNat])
        · have d7 : decide ((z.length : Int) = 5) = false := decide_eq_false (by omega)
          have e5 : decide (z.length = 5) = false := decide_eq_false h5
          simp only [c_rperson, r_rperson, rhasS, h1, h2, d3, d4, d5, d6, d7, e5, Bool.and_false, Bool.false_and, go_sem, Nat.reduceDiv, Nat.reduceMod, ↓reduceIte, Nat.reduceEqDiff, Nat.reduceBEq, Nat.reduceSub, Nat.reduceLT, Nat.reduceAdd, Nat.reduceLeDiff, reduceCtorEq, Int.reduceEq, Int.reduceNe, Int.reduceLT, Int.reduceLE, Int.reduceToNat]
          exact ⟨p1, p2⟩
  · cases hs
end Go.Proofs.YtlkaaoekbmegkaaGreatDoor
namespace Go.Proofs.YtlkaaoekbmegkaaGreatDoor
set_option linter.all false
open Go.RowKit
end Go.Proofs.YtlkaaoekbmegkaaGreatDoor
