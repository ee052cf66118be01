import Derived.Test.YtfabdnpeohpgnaaGreatDoorQFRepl
import Derived.Lib.ItoaLen
import Derived.Test.YtfabdnpeohpgnaaGreatDoorQShelf
namespace Go.Proofs.YtfabdnpeohpgnaaGreatDoor
set_option linter.all false
open Go.RowKit
open Go.Lib (index hasPrefix trimPrefix cut indexAny itoa)
theorem exsT_snoc (l : List ExL) (x : ExL) : exsT (l ++ [x]) = exsT l ++ ((if l = [] then [32] else [0]) ++ exT x) := by
  cases l with
  | nil => simp [exsT, joinB]
  | cons y l =>
    rw [if_neg (by simp), List.cons_append, exsT, exsT, List.map_cons, List.map_append, List.map_cons, List.map_nil, joinB, List.map_cons, joinB]
    simp
theorem file_shift : ∀ fs : List (List UInt8), 10 :: fs.flatMap fileT = fs.flatMap ([10] ++ ·) ++ [10]
  | [] => rfl
  | f :: fs => by
    have ih := file_shift fs
    rw [List.flatMap_cons, List.flatMap_cons, fileT, List.append_assoc, show ([10] : List UInt8) ++ fs.flatMap fileT = 10 :: fs.flatMap fileT from rfl, ih]
    simp
theorem join_body (h u da d : List UInt8) (fs : List (List UInt8)) : joinW [10] (h :: u :: da :: (fs ++ [[], d])) = h ++ 10 :: (u ++ 10 :: (da ++ 10 :: (fs.flatMap fileT ++ 10 :: d))) := by
  have := file_shift fs
  rw [joinW, List.flatMap_cons, List.flatMap_cons, List.flatMap_append]
  have e : da ++ 10 :: (fs.flatMap fileT ++ 10 :: d) = da ++ ((10 :: fs.flatMap fileT) ++ 10 :: d) := by simp
  rw [e, this]
  simp
theorem files_len : ∀ fs : List (List UInt8), (fs.flatMap fileT).length = sumL fs + fs.length
  | [] => rfl
  | f :: fs => by
    have ih := files_len fs
    simp only [List.flatMap_cons, List.length_append, fileT, sumL, List.map_cons, List.sum_cons, List.length_cons, List.length_nil] at ih ⊢
    omega
theorem body_len (c : ChgL) : (bodyH c).length = (hexL c.man).length + c.user.length + (dateT c).length + sumL c.files + c.files.length + c.desc.length + 4 := by
  have := files_len c.files
  simp only [bodyH, List.length_append, List.length_cons]; omega
def sizeH (c : ChgL) : Prop := c.man.length = 20 ∧ c.user.length ≤ 1000000 ∧ c.extras.length ≤ 100000 ∧ c.files.length ≤ 100000 ∧ (∀ x ∈ c.extras, x.1.length ≤ 1000000 ∧ x.2.length ≤ 1000000) ∧ (∀ f ∈ c.files, f.length ≤ 1000000) ∧
  (exsT c.extras).length ≤ 100000000 ∧ sumL c.files ≤ 100000000 ∧ c.desc.length ≤ 100000000 ∧ inI c.time ∧ inI c.zone
def gprnR (c : ChgL) (pr : Prop) : Option Ret := if rightH c = true then some ⟨.tup [.own 0 0, .int .i64 0], [.row 5 1 0 (Bs (bodyH c))], pr⟩ else some ⟨.tup [.con (.slice none 0 0), .int .i64 4], [], pr⟩
def argH (m : List Value) (ke : Nat) (es : List AV) (kf : Nat) (fs : List AV) : Prop := m = (unV m).map U ∧ es = (es.map unEx).map exV ∧ fs = (fs.map unS).map AV.str ∧ (ke = 2 ∨ es = []) ∧ kf = 1
def gprnS : Spec := fun xs hp => match xs, hp with
  | [.agg [(20, .blob m), (1, .str u), (1, .int .i64 t), (1, .int .i64 z), (1, .sl ke es), (1, .sl kf fs), (1, .str d)]], [] =>
    gprnR ⟨unV m, u, t, z, es.map unEx, fs.map unS, d⟩ (argH m ke es kf fs ∧ sizeH ⟨unV m, u, t, z, es.map unEx, fs.map unS, d⟩)
  | _, _ => none
theorem gprnR_pre {c : ChgL} {pr : Prop} {r : Ret} (h : gprnR c pr = some r) (hr : r.pre) : pr := by
  unfold gprnR at h
  split at h <;> (injection h with h; subst h; exact hr)
theorem exsT_take (es : List ExL) {i : Nat} (h : i < es.length) : exsT (es.take (i + 1)) = exsT (es.take i) ++ ((if i = 0 then [32] else [0]) ++ exT es[i]) := by
  rw [List.take_add_one, List.getElem?_eq_getElem h, Option.toList_some, exsT_snoc]
  have : (es.take i = []) ↔ i = 0 := by
    constructor
    · intro e; have := congrArg List.length e; rw [List.length_take, List.length_nil] at this; omega
    · rintro rfl; rfl
  by_cases hi : i = 0
  · rw [if_pos hi, if_pos (this.2 hi)]
  · rw [if_neg hi, if_neg (fun e => hi (this.1 e))]
theorem exsT_take_le (es : List ExL) : ∀ (k i : Nat), i + k = es.length → (exsT (es.take i)).length ≤ (exsT es).length
  | 0, i, h => by rw [List.take_of_length_le (by omega)]; exact Nat.le_refl _
  | k + 1, i, h => by
    have ih := exsT_take_le es k (i + 1) (by omega)
    rw [exsT_take es (by omega), List.length_append] at ih; omega
def phiGP : Phi := phiL [(14, [], grightS), (15, [], itoaS), (17, [], hexS), (16, [], gtoldS), (18, [], joinS)]
theorem phiGP_ok : PhiOk Tryz.prog phiGP := phi_cons gright_ok (by kernel_rfl) (phi_cons ndec_ok (by kernel_rfl) (phi_cons hex_ok (by kernel_rfl) (phi_cons gtold_ok (by kernel_rfl) (phi_cons join_ok (by kernel_rfl) phi_nil))))
theorem phiGP_1 : phiGP 14 = some ([], grightS) := rfl
theorem phiGP_2 : phiGP 15 = some ([], itoaS) := rfl
theorem phiGP_3 : phiGP 17 = some ([], hexS) := rfl
theorem phiGP_4 : phiGP 16 = some ([], gtoldS) := rfl
theorem phiGP_5 : phiGP 18 = some ([], joinS) := rfl
set_option maxHeartbeats 4000000 in
theorem gprn_ok : FnOk Tryz.prog 7 gprnS := by
  refine fn_slim2 Tryz.func7 s_gprn phiGP_ok ?_
  intro xs hp r hs hp'
  unfold gprnS at hs
  split at hs
  · rename_i m u t z ke es kf fs d
    obtain ⟨⟨q1, q2, q3, q4, q5⟩, z1, z2, z3, z4, z5, z6, z7, z8, z9, z10, z11⟩ := gprnR_pre hs hp'
    generalize unV m = m at *
    subst q1
    generalize es.map unEx = es at *
    subst q2
    generalize fs.map unS = fs at *
    subst q3 q5
    simp only at z1 z2 z3 z4 z5 z6 z7 z8 z9 z10 z11
    refine ⟨len_le (by kernel_rfl), ?_⟩
    have zk : ∀ x ∈ es, x.1.length ≤ 1000000000 := fun x hx => by have := (z5 x hx).1; omega
    have zf : ∀ f ∈ fs, f.length ≤ 1000000000 := fun f hf => by have := z6 f hf; omega
    cases hr : rightH ⟨m, u, t, z, es, fs, d⟩ with
    | false =>
      unfold gprnR at hs
      rw [if_neg (by rw [hr]; simp)] at hs
      injection hs with hs; subst hs
      simp only [c_gprn, r_gprn, phiGP_1, grightS, unV_U, unEx_map, unS_map, hr, List.length_map, go_sem, Nat.reduceDiv, Nat.reduceMod, ↓reduceIte, Nat.reduceEqDiff, Nat.reduceBEq, Nat.reduceSub, Nat.reduceLT, Nat.reduceAdd, Nat.reduceLeDiff, reduceCtorEq, Int.reduceEq, Int.reduceNe, Int.reduceLT, Int.reduceLE, Int.reduceToNat]
      exact ⟨q4, Or.inl trivial, by omega, by omega, zk, zf, z2⟩
    | true =>
      unfold gprnR at hs
      rw [if_pos hr] at hs
      injection hs with hs; subst hs
      have l1 := Lib.itoa_length_le t z10.1 z10.2
      have l2 := Lib.itoa_length_le z z11.1 z11.2
      simp only [c_gprn, phiGP_1, phiGP_2, grightS, itoaS, unV_U, unEx_map, unS_map, hr, List.length_map, go_sem, Nat.reduceDiv, Nat.reduceMod, ↓reduceIte, Nat.reduceEqDiff, Nat.reduceBEq, Nat.reduceSub, Nat.reduceLT, Nat.reduceAdd, Nat.reduceLeDiff, reduceCtorEq, Int.reduceEq, Int.reduceNe, Int.reduceLT, Int.reduceLE, Int.reduceToNat]
      refine ⟨⟨q4, Or.inl trivial, by omega, by omega, zk, zf, z2⟩, z10, by (first | omega | (simp only [lenOk, bytesOk, inI, IntKind.bits, List.length_append, Bs_len, List.length_cons, List.length_nil, List.length_map, List.length_take, List.length_drop, List.length_replicate]; omega)), z11, by (first | omega | (simp only [lenOk, bytesOk, inI, IntKind.bits, List.length_append, Bs_len, List.length_cons, List.length_nil, List.length_map, List.length_take, List.length_drop, List.length_replicate]; omega)), ?_⟩
      refine loop2P [] [1, 4, 21, 22, 23] [0] (fun i : Nat => ⟨[(1, .ref 0 0 0), (4, .str (itoa t ++ 32 :: (itoa z ++ exsT (es.take i)))), (21, .sl ke (es.map exV)), (22, .int .i64 (es.length : Int)), (23, .int .i64 (i : Int))], [.cells 30 [(20, .blob (m.map U)), (1, .str u), (1, .int .i64 t), (1, .int .i64 z), (1, .sl ke (es.map exV)), (1, .sl 1 (fs.map AV.str)), (1, .str d)]]⟩)
        (fun i => i ≤ es.length) (fun i => es.length - i) 0 ?_ (Nat.zero_le _) ⟨rfl, by rfl⟩ (fun i hi R hR => ?_)
      · have e0 : itoa t ++ [32] ++ itoa z = itoa t ++ 32 :: itoa z := by simp
        simp only [List.take_zero, exsT, List.append_nil, e0]
        rfl
      by_cases hil : i < es.length
      · have c1 : decide ((i : Int) < (es.length : Int)) = true := decide_eq_true (by omega)
        have hk : ke = 2 := q4.resolve_right (by intro h; have := congrArg List.length h; simp at this; rw [this] at hil; simp at hil)
        have hget := getD_map exV es ([], []) (AV.agg [(1, AV.str []), (1, AV.str [])]) hil
        have hga : es.getD i ([], []) = es[i] := by simp [List.getD_eq_getElem?_getD, List.getElem?_eq_getElem hil]
        obtain ⟨x1, x2⟩ := z5 es[i] (List.getElem_mem _)
        have htk := exsT_take es hil
        have hle := exsT_take_le es (es.length - (i + 1)) (i + 1) (by omega)
        subst hk
        generalize es[i] = x at *
        have htl := tol_len x.2
        rw [htk, List.length_append, List.length_append] at hle
        unfold exT at htk hle
        rw [List.length_append, List.length_cons] at hle
        by_cases h0 : i = 0
        · have d0 : decide ((i : Int) = 0) = true := decide_eq_true (by omega)
          rw [if_pos h0] at htk hle
          simp only [b_gprn_0, c1, d0, hget, hga, exV, phiGP_4, gtoldS, Int.toNat_natCast, List.length_map, go_sem, Nat.reduceDiv, Nat.reduceMod, ↓reduceIte, Nat.reduceEqDiff, Nat.reduceBEq, Nat.reduceSub, Nat.reduceLT, Nat.reduceAdd, Nat.reduceLeDiff, reduceCtorEq, Int.reduceEq, Int.reduceNe, Int.reduceLT, Int.reduceLE, Int.reduceToNat]
          refine ⟨⟨by omega, by omega⟩, by (first | omega | (simp only [lenOk, bytesOk, inI, IntKind.bits, List.length_append, Bs_len, List.length_cons, List.length_nil, List.length_map, List.length_take, List.length_drop, List.length_replicate]; omega)), by (first | omega | (simp only [lenOk, bytesOk, inI, IntKind.bits, List.length_append, Bs_len, List.length_cons, List.length_nil, List.length_map, List.length_take, List.length_drop, List.length_replicate]; omega)), by omega, by (first | omega | (simp only [lenOk, bytesOk, inI, IntKind.bits, List.length_append, Bs_len, List.length_cons, List.length_nil, List.length_map, List.length_take, List.length_drop, List.length_replicate]; omega)), by (first | omega | (simp only [lenOk, bytesOk, inI, IntKind.bits, List.length_append, Bs_len, List.length_cons, List.length_nil, List.length_map, List.length_take, List.length_drop, List.length_replicate]; omega)), ⟨by omega, by omega⟩, ?_⟩
          have e : itoa t ++ 32 :: (itoa z ++ exsT (es.take (i + 1))) = itoa t ++ 32 :: (itoa z ++ exsT (List.take i es)) ++ 32 :: (x.1 ++ [58] ++ tolL x.2) := by rw [htk]; simp
          rw [← e]
          exact hR _ (i + 1) hil (by omega) rfl
        · have d0 : decide ((i : Int) = 0) = false := decide_eq_false (by omega)
          rw [if_neg h0] at htk hle
          simp only [b_gprn_0, c1, d0, hget, hga, exV, phiGP_4, gtoldS, Int.toNat_natCast, List.length_map, go_sem, Nat.reduceDiv, Nat.reduceMod, ↓reduceIte, Nat.reduceEqDiff, Nat.reduceBEq, Nat.reduceSub, Nat.reduceLT, Nat.reduceAdd, Nat.reduceLeDiff, reduceCtorEq, Int.reduceEq, Int.reduceNe, Int.reduceLT, Int.reduceLE, Int.reduceToNat]
          refine ⟨⟨by omega, by omega⟩, by (first | omega | (simp only [lenOk, bytesOk, inI, IntKind.bits, List.length_append, Bs_len, List.length_cons, List.length_nil, List.length_map, List.length_take, List.length_drop, List.length_replicate]; omega)), by (first | omega | (simp only [lenOk, bytesOk, inI, IntKind.bits, List.length_append, Bs_len, List.length_cons, List.length_nil, List.length_map, List.length_take, List.length_drop, List.length_replicate]; omega)), by omega, by (first | omega | (simp only [lenOk, bytesOk, inI, IntKind.bits, List.length_append, Bs_len, List.length_cons, List.length_nil, List.length_map, List.length_take, List.length_drop, List.length_replicate]; omega)), by (first | omega | (simp only [lenOk, bytesOk, inI, IntKind.bits, List.length_append, Bs_len, List.length_cons, List.length_nil, List.length_map, List.length_take, List.length_drop, List.length_replicate]; omega)), ⟨by omega, by omega⟩, ?_⟩
          have e : itoa t ++ 32 :: (itoa z ++ exsT (es.take (i + 1))) = itoa t ++ 32 :: (itoa z ++ exsT (List.take i es)) ++ 0 :: (x.1 ++ [58] ++ tolL x.2) := by rw [htk]; simp
          rw [← e]
          exact hR _ (i + 1) hil (by omega) rfl
      · have c1 : decide ((i : Int) < (es.length : Int)) = false := decide_eq_false (by omega)
        rw [List.take_of_length_le (by omega)]
        simp only [b_gprn_0, t_gprn_0, r_gprn, c1, phiGP_3, phiGP_5, hexS, joinS, unV_U, List.length_map, if_pos, go_sem, Nat.reduceDiv, Nat.reduceMod, ↓reduceIte, Nat.reduceEqDiff, Nat.reduceBEq, Nat.reduceSub, Nat.reduceLT, Nat.reduceAdd, Nat.reduceLeDiff, reduceCtorEq, Int.reduceEq, Int.reduceNe, Int.reduceLT, Int.reduceLE, Int.reduceToNat]
        have eR : fs.map AV.str ++ [AV.str [], AV.str d] = (fs ++ [[], d]).map AV.str := by simp
        have eJ : joinW [10] (unS (AV.str (hexL m)) :: unS (AV.str u) :: unS (AV.str (itoa t ++ 32 :: (itoa z ++ exsT es))) :: (fs ++ [[], d])) = bodyH ⟨m, u, t, z, es, fs, d⟩ := join_body _ _ _ _ _
        have hb := body_len ⟨m, u, t, z, es, fs, d⟩
        have hh := hexL_length m
        have hd : (dateT ⟨m, u, t, z, es, fs, d⟩).length = (itoa t).length + (1 + (itoa z).length + (exsT es).length) := by unfold dateT; simp only [List.length_append, List.length_cons]; omega
        simp only at hb
        rw [eR, unS_map, List.length_map, List.length_append, eJ]
        have hs : sumL (unS (AV.str (hexL m)) :: unS (AV.str u) :: unS (AV.str (itoa t ++ 32 :: (itoa z ++ exsT es))) :: (fs ++ [[], d])) = (hexL m).length + (u.length + ((dateT ⟨m, u, t, z, es, fs, d⟩).length + (sumL fs + d.length))) := by
          simp only [sumL, unS, dateT, List.map_cons, List.sum_cons, List.map_append, List.sum_append, List.map_nil, List.sum_nil, List.length_nil]; omega
        refine ⟨z1, ⟨by (first | omega | (simp only [lenOk, bytesOk, inI, IntKind.bits, List.length_append, Bs_len, List.length_cons, List.length_nil, List.length_map, List.length_take, List.length_drop, List.length_replicate]; omega)), by (first | omega | (simp only [lenOk, bytesOk, inI, IntKind.bits, List.length_append, Bs_len, List.length_cons, List.length_nil, List.length_map, List.length_take, List.length_drop, List.length_replicate]; omega))⟩, ⟨by (first | omega | (simp only [lenOk, bytesOk, inI, IntKind.bits, List.length_append, Bs_len, List.length_cons, List.length_nil, List.length_map, List.length_take, List.length_drop, List.length_replicate]; omega)), by (first | omega | (simp only [lenOk, bytesOk, inI, IntKind.bits, List.length_append, Bs_len, List.length_cons, List.length_nil, List.length_map, List.length_take, List.length_drop, List.length_replicate]; omega))⟩, ⟨rfl, Or.inl trivial, by simp only [List.length_cons, List.length_nil]; omega, by rw [hs]; omega⟩, by (first | omega | (simp only [lenOk, bytesOk, inI, IntKind.bits, List.length_append, Bs_len, List.length_cons, List.length_nil, List.length_map, List.length_take, List.length_drop, List.length_replicate]; omega)), rfl⟩
  · cases hs
end Go.Proofs.YtfabdnpeohpgnaaGreatDoor
namespace Go.Proofs.YtfabdnpeohpgnaaGreatDoor
set_option linter.all false
open Go.RowKit
open Go.Lib (decDigits itoa)
noncomputable def decP : Nat → List UInt8 := sealF fun n => if n = 0 then [] else decDigits n
theorem decP_0 : decP 0 = [] := by unfold decP; rw [sealF_eq]; rfl
theorem decP_pos {n : Nat} (h : 0 < n) : decP n = decDigits n := by unfold decP; rw [sealF_eq]; exact if_neg (by omega)
theorem decP_step {n : Nat} (h : 0 < n) : decP n = decP (n / 10) ++ [dc (n % 10)] := by
  rw [decP_pos h]
  by_cases h1 : n < 10
  · rw [decD_small h1, Nat.div_eq_of_lt h1, decP_0, Nat.mod_eq_of_lt h1]; rfl
  · rw [decD_big (by omega), decP_pos (by omega)]
theorem decD_last (n : Nat) : decP (n / 10) ++ [dc (n % 10)] = decDigits n := by
  by_cases h : n = 0
  · subst h; rw [decP_0, decD_small (by omega)]; rfl
  · rw [← decP_step (by omega), decP_pos (by omega)]
def b_rdec_0 : ACode := (.seq (.seq (.reg none [⟨(some 7), (.mv (.t 0)), none⟩, ⟨(some 8), (.bin .lss (.t 7) (.c (.int .i64 0))), none⟩]) (.cond (.t 8) .skip (.exit 0))) (.block 1 (.seq (.reg none [⟨(some 9), (.mv (.t 0)), none⟩, ⟨(some 10), (.bin .rem (.t 9) (.c (.int .i64 10))), none⟩, ⟨(some 11), (.bin .sub (.c (.int .i64 48)) (.t 10)), none⟩, ⟨(some 12), (.toInt .u8 (.t 11)), none⟩, ⟨(some 13), (.buildSl 5 1 [(.t 12)]), none⟩, ⟨(some 14), (.toStr (.t 13)), none⟩, ⟨(some 15), (.mv (.t 3)), none⟩, ⟨(some 16), (.bin .add (.t 14) (.t 15)), none⟩, ⟨(some 3), (.mv (.t 16)), none⟩]) (.reg none [⟨(some 17), (.mv (.t 0)), none⟩, ⟨(some 18), (.bin .quo (.t 17) (.c (.int .i64 10))), none⟩, ⟨(some 0), (.mv (.t 18)), none⟩]))))
def b_rdec_1 : ACode := (.seq (.seq (.reg none [⟨(some 29), (.mv (.t 0)), none⟩, ⟨(some 30), (.bin .gtr (.t 29) (.c (.int .i64 0))), none⟩]) (.cond (.t 30) .skip (.exit 2))) (.seq (.block 3 (.reg none [⟨(some 33), (.mv (.t 0)), none⟩, ⟨(some 34), (.bin .rem (.t 33) (.c (.int .i64 10))), none⟩, ⟨(some 35), (.bin .add (.c (.int .i64 48)) (.t 34)), none⟩, ⟨(some 36), (.toInt .u8 (.t 35)), none⟩, ⟨(some 37), (.buildSl 5 1 [(.t 36)]), none⟩, ⟨(some 38), (.toStr (.t 37)), none⟩, ⟨(some 39), (.mv (.t 4)), none⟩, ⟨(some 40), (.bin .add (.t 38) (.t 39)), none⟩, ⟨(some 4), (.mv (.t 40)), none⟩])) (.reg none [⟨(some 31), (.mv (.t 0)), none⟩, ⟨(some 32), (.bin .quo (.t 31) (.c (.int .i64 10))), none⟩, ⟨(some 0), (.mv (.t 32)), none⟩])))
def t_rdec_0 : ACode := (.seq (.reg none [⟨(some 41), (.mv (.t 4)), none⟩, ⟨(some 2), (.mv (.t 41)), none⟩]) .ret)
def t_rdec_1 : ACode := (.seq (.reg none [⟨(some 21), (.mv (.t 0)), none⟩, ⟨(some 22), (.bin .rem (.t 21) (.c (.int .i64 10))), none⟩, ⟨(some 23), (.bin .add (.c (.int .i64 48)) (.t 22)), none⟩, ⟨(some 24), (.toInt .u8 (.t 23)), none⟩, ⟨(some 25), (.buildSl 5 1 [(.t 24)]), none⟩, ⟨(some 26), (.toStr (.t 25)), none⟩, ⟨(some 4), (.mv (.t 26)), none⟩]) (.seq (.seq (.reg none [⟨(some 27), (.mv (.t 0)), none⟩, ⟨(some 28), (.bin .quo (.t 27) (.c (.int .i64 10))), none⟩, ⟨(some 0), (.mv (.t 28)), none⟩]) (.block 2 (.loop b_rdec_1))) t_rdec_0))
def c_rdec : ACode := (.seq (.reg none [⟨(some 2), (.mv (.c (.str []))), none⟩]) (.seq (.seq (.reg none [⟨(some 5), (.mv (.t 0)), none⟩, ⟨(some 6), (.bin .lss (.t 5) (.c (.int .i64 0))), none⟩]) (.cond (.t 6) (.seq (.reg none [⟨(some 3), (.mv (.c (.str []))), none⟩]) (.seq (.block 0 (.loop b_rdec_0)) (.seq (.reg none [⟨(some 19), (.mv (.t 3)), none⟩, ⟨(some 20), (.bin .add (.c (.str [45])) (.t 19)), none⟩, ⟨(some 2), (.mv (.t 20)), none⟩]) .ret))) .skip)) t_rdec_1))
def r_rdec : List ARes := [(.t 2)]
theorem s_rdec : slimF Tryz.prog Tryz.f22 = some (c_rdec, r_rdec) := by kernel_rfl
theorem rdec_ok : FnOk Tryz.prog 22 itoaS := by
  refine fn_slim Tryz.func22 s_rdec (Φ := phiL []) phi_nil ?_
  intro xs hp r hs hp'
  unfold itoaS at hs
  split at hs
  · injection hs with hs; subst hs
    rename_i n
    refine ⟨len_le (by kernel_rfl), ?_⟩
    have hn : inI n := hp'
    obtain ⟨hn1, hn2⟩ := hn
    by_cases hneg : n < 0
    · have d1 : decide (n < 0) = true := decide_eq_true hneg
      obtain ⟨m, rfl⟩ : ∃ m : Nat, n = -(m : Int) := ⟨n.natAbs, by omega⟩
      have hit : itoa (-(m : Int)) = 45 :: decDigits m := Lib.itoa_neg m (by omega)
      have hlen := decD_pow 18 m (by omega)
      simp only [c_rdec, d1, awp_scope, noG_n, noG_r, noG_x, awp_skip, awp_reg, awp_draw, awp_seq, awp_cond, awp_block, awp_loop, awp_exit, awp_ret, arun_nil, arun_op, arun_gt, arun_gf, arunD_nil, arunD_op, arunD_gt, arunD_gf, aq_some, isB_t, isB_u, isB_f, isB_g, isB_p, isU_t, isU_b, ifB_t, ifB_f, thenQ_n, thenQ_x, thenQ_r, inQ_n, inQ_r, inQ_x, retQ_n, retQ_r, exD, AOp.isH, keepN, preB, avalP, pureR, astep, stV, stN, stE, stC, aval, anew, aElems, frzS, frzH, aeff, slots, aret, ares, aress, AV.isTup, eqFs, aEqS, ofC_i, ofC_b, ofC_s, ofC_U, getD_mapU, getD_Bs, Bs_len, Int.toNat_natCast, opd, pt, tk, subp, rdP, Rt.size, Rt.isAgg, Rt.zv, aBin, aInt, aStr, arI, aUn, aToInt, aToStr, aIdxS, zv, aIdxA, aIa, aIaA, aFa, aLd, aFld, pparts, aLo, aHi, cutL, aSlS, aSl, aExt, aNck, aNilc, AV.isStr, aLen, AV.one, AV.multi, pureB, szOk, psz, drp, spl, aEqB, aEqA, aMm, aMkfn, aMkif, aBuild, toV, aBuildA, wrP, unparts, view, nilS, St.ev, lk, St.put, St.pin, St.pinV, acall0, acall1, acall2, acall3, bor, bor0, bor1, phiL_nil, phiL_at, tau, lentO, okIds, flatC, flatB, flatOs, flatO, flatPs, place, setAll_nil, setAll_cons, nodupB, renObj, closeIds, addNew, idsOf, idsObj, posOf, lenOk_0, lenOk_1, lenOk_2, lenOk_3, lenOk_4, lenOk_8, ↓reduceIte, Option.isSome_none, Option.isSome_some, Bool.or_true, Bool.true_or,  Nat.reduceEqDiff, Nat.reduceBEq, Nat.reduceSub, Nat.reduceLT, beq_self_eq_true, List.map, List.set, List.map_cons, List.map_nil, List.flatMap_cons, List.flatMap_nil, List.flatten_cons, List.flatten_nil, true_and, and_true, List.length_cons, List.length_nil, Nat.reduceAdd, Nat.reduceLeDiff, List.nil_append, List.cons_append, List.append_nil, Option.map, mapO, ren, kp, kpI, ent, nilG, Option.bind, List.range, List.range.loop, List.getElem?_cons_zero, List.getElem?_cons_succ, List.getElem?_nil, List.getD_cons_zero, List.getD_cons_succ, List.drop_zero, List.drop_succ_cons, List.drop_nil, List.take_zero, List.take_succ_cons, List.all_cons, List.all_nil, List.isEmpty_nil, List.isEmpty_cons, Bool.and_true, Bool.true_and, Bool.not_true, Bool.not_false, List.contains_nil, reduceCtorEq, List.contains_cons, Bool.or_false, Bool.false_or, eq_self, forall_const, false_implies, Bool.false_eq_true, Nat.le_refl, List.length_map, List.length_set, List.length_replicate, and_self, implies_true]
      refine loop_at [] [0, 3] [] (fun a : Nat × List UInt8 => ⟨[(0, .int .i64 (-(a.1 : Int))), (3, .str a.2)], []⟩) (fun a => decP a.1 ++ a.2 = decDigits m ∧ a.1 ≤ m) (fun a => a.1) (m, []) rfl ⟨by simp only [List.append_nil]; exact decP_pos (by omega), Nat.le_refl _⟩ ⟨rfl, rfl⟩ (fun a ha => ?_)
      obtain ⟨cur, s⟩ := a
      obtain ⟨ha, hb⟩ := ha
      simp only at ha hb
      have hl := congrArg List.length ha
      rw [List.length_append] at hl
      by_cases hc : cur = 0
      · subst hc
        have d2 : decide (-((0 : Nat) : Int) < 0) = false := decide_eq_false (by omega)
        rw [decP_0, List.nil_append] at ha
        subst ha
        simp only [b_rdec_0, r_rdec, d2, hit, awp_scope, noG_n, noG_r, noG_x, awp_skip, awp_reg, awp_draw, awp_seq, awp_cond, awp_block, awp_loop, awp_exit, awp_ret, arun_nil, arun_op, arun_gt, arun_gf, arunD_nil, arunD_op, arunD_gt, arunD_gf, aq_some, isB_t, isB_u, isB_f, isB_g, isB_p, isU_t, isU_b, ifB_t, ifB_f, thenQ_n, thenQ_x, thenQ_r, inQ_n, inQ_r, inQ_x, retQ_n, retQ_r, exD, AOp.isH, keepN, preB, avalP, pureR, astep, stV, stN, stE, stC, aval, anew, aElems, frzS, frzH, aeff, slots, aret, ares, aress, AV.isTup, eqFs, aEqS, ofC_i, ofC_b, ofC_s, ofC_U, getD_mapU, getD_Bs, Bs_len, Int.toNat_natCast, opd, pt, tk, subp, rdP, Rt.size, Rt.isAgg, Rt.zv, aBin, aInt, aStr, arI, aUn, aToInt, aToStr, aIdxS, zv, aIdxA, aIa, aIaA, aFa, aLd, aFld, pparts, aLo, aHi, cutL, aSlS, aSl, aExt, aNck, aNilc, AV.isStr, aLen, AV.one, AV.multi, pureB, szOk, psz, drp, spl, aEqB, aEqA, aMm, aMkfn, aMkif, aBuild, toV, aBuildA, wrP, unparts, view, nilS, St.ev, lk, St.put, St.pin, St.pinV, acall0, acall1, acall2, acall3, bor, bor0, bor1, phiL_nil, phiL_at, tau, lentO, okIds, flatC, flatB, flatOs, flatO, flatPs, place, setAll_nil, setAll_cons, nodupB, renObj, closeIds, addNew, idsOf, idsObj, posOf, lenOk_0, lenOk_1, lenOk_2, lenOk_3, lenOk_4, lenOk_8, ↓reduceIte, Option.isSome_none, Option.isSome_some, Bool.or_true, Bool.true_or,  Nat.reduceEqDiff, Nat.reduceBEq, Nat.reduceSub, Nat.reduceLT, beq_self_eq_true, List.map, List.set, List.map_cons, List.map_nil, List.flatMap_cons, List.flatMap_nil, List.flatten_cons, List.flatten_nil, true_and, and_true, List.length_cons, List.length_nil, Nat.reduceAdd, Nat.reduceLeDiff, List.nil_append, List.cons_append, List.append_nil, Option.map, mapO, ren, kp, kpI, ent, nilG, Option.bind, List.range, List.range.loop, List.getElem?_cons_zero, List.getElem?_cons_succ, List.getElem?_nil, List.getD_cons_zero, List.getD_cons_succ, List.drop_zero, List.drop_succ_cons, List.drop_nil, List.take_zero, List.take_succ_cons, List.all_cons, List.all_nil, List.isEmpty_nil, List.isEmpty_cons, Bool.and_true, Bool.true_and, Bool.not_true, Bool.not_false, List.contains_nil, reduceCtorEq, List.contains_cons, Bool.or_false, Bool.false_or, eq_self, forall_const, false_implies, Bool.false_eq_true, Nat.le_refl, List.length_map, List.length_set, List.length_replicate, and_self, implies_true]
        simp only [Bool.false_eq_true, renObj, finP, finI, closeIds, addNew, idsOf, List.flatMap_nil, List.flatMap_cons, List.append_nil, List.nil_append, List.take_zero, nodupB, posOf, idsObj, List.getD_cons_zero, List.getD_cons_succ, List.range, List.range.loop, ren, lentO, mapO, Option.map, ↓reduceIte, Nat.reduceEqDiff, true_and, and_true, List.getElem?_cons_zero, List.getElem?_cons_succ, Nat.reduceAdd, List.contains_nil, Bool.not_false, Bool.and_true, List.map_nil, List.map_cons, List.take_succ_cons]
        (first | omega | (simp only [lenOk, bytesOk, inI, IntKind.bits, List.length_append, Bs_len, List.length_cons, List.length_nil, List.length_map, List.length_take, List.length_drop, List.length_replicate]; omega))
      · have d2 : decide (-(cur : Int) < 0) = true := decide_eq_true (by omega)
        have e1 : (-(cur : Int)).tmod 10 = -((cur % 10 : Nat) : Int) := by rw [Int.neg_tmod, show (10 : Int) = ((10 : Nat) : Int) from rfl, tmod_nat]
        have e2 : (-(cur : Int)).tdiv 10 = -((cur / 10 : Nat) : Int) := by rw [Int.neg_tdiv, show (10 : Int) = ((10 : Nat) : Int) from rfl, tdiv_nat]
        have e3 : 48 - -((cur % 10 : Nat) : Int) = ((48 + cur % 10 : Nat) : Int) := by omega
        simp only [b_rdec_0, d2, e1, e2, e3, wrap8n (show 48 + cur % 10 < 256 by omega), Bs_o8 _ (show 48 + cur % 10 < 256 by omega), unB_Bs, awp_scope, noG_n, noG_r, noG_x, awp_skip, awp_reg, awp_draw, awp_seq, awp_cond, awp_block, awp_loop, awp_exit, awp_ret, arun_nil, arun_op, arun_gt, arun_gf, arunD_nil, arunD_op, arunD_gt, arunD_gf, aq_some, isB_t, isB_u, isB_f, isB_g, isB_p, isU_t, isU_b, ifB_t, ifB_f, thenQ_n, thenQ_x, thenQ_r, inQ_n, inQ_r, inQ_x, retQ_n, retQ_r, exD, AOp.isH, keepN, preB, avalP, pureR, astep, stV, stN, stE, stC, aval, anew, aElems, frzS, frzH, aeff, slots, aret, ares, aress, AV.isTup, eqFs, aEqS, ofC_i, ofC_b, ofC_s, ofC_U, getD_mapU, getD_Bs, Bs_len, Int.toNat_natCast, opd, pt, tk, subp, rdP, Rt.size, Rt.isAgg, Rt.zv, aBin, aInt, aStr, arI, aUn, aToInt, aToStr, aIdxS, zv, aIdxA, aIa, aIaA, aFa, aLd, aFld, pparts, aLo, aHi, cutL, aSlS, aSl, aExt, aNck, aNilc, AV.isStr, aLen, AV.one, AV.multi, pureB, szOk, psz, drp, spl, aEqB, aEqA, aMm, aMkfn, aMkif, aBuild, toV, aBuildA, wrP, unparts, view, nilS, St.ev, lk, St.put, St.pin, St.pinV, acall0, acall1, acall2, acall3, bor, bor0, bor1, phiL_nil, phiL_at, tau, lentO, okIds, flatC, flatB, flatOs, flatO, flatPs, place, setAll_nil, setAll_cons, nodupB, renObj, closeIds, addNew, idsOf, idsObj, posOf, lenOk_0, lenOk_1, lenOk_2, lenOk_3, lenOk_4, lenOk_8, ↓reduceIte, Option.isSome_none, Option.isSome_some, Bool.or_true, Bool.true_or,  Nat.reduceEqDiff, Nat.reduceBEq, Nat.reduceSub, Nat.reduceLT, beq_self_eq_true, List.map, List.set, List.map_cons, List.map_nil, List.flatMap_cons, List.flatMap_nil, List.flatten_cons, List.flatten_nil, true_and, and_true, List.length_cons, List.length_nil, Nat.reduceAdd, Nat.reduceLeDiff, List.nil_append, List.cons_append, List.append_nil, Option.map, mapO, ren, kp, kpI, ent, nilG, Option.bind, List.range, List.range.loop, List.getElem?_cons_zero, List.getElem?_cons_succ, List.getElem?_nil, List.getD_cons_zero, List.getD_cons_succ, List.drop_zero, List.drop_succ_cons, List.drop_nil, List.take_zero, List.take_succ_cons, List.all_cons, List.all_nil, List.isEmpty_nil, List.isEmpty_cons, Bool.and_true, Bool.true_and, Bool.not_true, Bool.not_false, List.contains_nil, reduceCtorEq, List.contains_cons, Bool.or_false, Bool.false_or, eq_self, forall_const, false_implies, Bool.false_eq_true, Nat.le_refl, List.length_map, List.length_set, List.length_replicate, and_self, implies_true]
        refine ⟨by omega, by (first | omega | (simp only [lenOk, bytesOk, inI, IntKind.bits, List.length_append, Bs_len, List.length_cons, List.length_nil, List.length_map, List.length_take, List.length_drop, List.length_replicate]; omega)), by (first | omega | (simp only [lenOk, bytesOk, inI, IntKind.bits, List.length_append, Bs_len, List.length_cons, List.length_nil, List.length_map, List.length_take, List.length_drop, List.length_replicate]; omega)), ⟨by omega, by (first | omega | (simp only [lenOk, bytesOk, inI, IntKind.bits, List.length_append, Bs_len, List.length_cons, List.length_nil, List.length_map, List.length_take, List.length_drop, List.length_replicate]; omega))⟩, (cur / 10, o8 (48 + cur % 10) :: s), ⟨?_, by simp only; omega⟩, by simp only; omega, rfl⟩
        rw [decP_step (by omega), List.append_assoc] at ha
        exact ha
    · have d1 : decide (n < 0) = false := decide_eq_false hneg
      obtain ⟨m, rfl⟩ : ∃ m : Nat, n = (m : Int) := ⟨n.natAbs, by omega⟩
      have hit : itoa (m : Int) = decDigits m := itoa_nat m
      have hlen := decD_pow 18 m (by omega)
      have e1 : ∀ c : Nat, (c : Int).tmod 10 = ((c % 10 : Nat) : Int) := fun c => tmod_nat c 10
      have e2 : ∀ c : Nat, (c : Int).tdiv 10 = ((c / 10 : Nat) : Int) := fun c => tdiv_nat c 10
      have e3 : ∀ c : Nat, 48 + ((c % 10 : Nat) : Int) = ((48 + c % 10 : Nat) : Int) := fun c => by omega
      simp only [c_rdec, t_rdec_1, d1, e1, e2, e3, wrap8n (show 48 + m % 10 < 256 by omega), Bs_o8 _ (show 48 + m % 10 < 256 by omega), unB_Bs, awp_scope, noG_n, noG_r, noG_x, awp_skip, awp_reg, awp_draw, awp_seq, awp_cond, awp_block, awp_loop, awp_exit, awp_ret, arun_nil, arun_op, arun_gt, arun_gf, arunD_nil, arunD_op, arunD_gt, arunD_gf, aq_some, isB_t, isB_u, isB_f, isB_g, isB_p, isU_t, isU_b, ifB_t, ifB_f, thenQ_n, thenQ_x, thenQ_r, inQ_n, inQ_r, inQ_x, retQ_n, retQ_r, exD, AOp.isH, keepN, preB, avalP, pureR, astep, stV, stN, stE, stC, aval, anew, aElems, frzS, frzH, aeff, slots, aret, ares, aress, AV.isTup, eqFs, aEqS, ofC_i, ofC_b, ofC_s, ofC_U, getD_mapU, getD_Bs, Bs_len, Int.toNat_natCast, opd, pt, tk, subp, rdP, Rt.size, Rt.isAgg, Rt.zv, aBin, aInt, aStr, arI, aUn, aToInt, aToStr, aIdxS, zv, aIdxA, aIa, aIaA, aFa, aLd, aFld, pparts, aLo, aHi, cutL, aSlS, aSl, aExt, aNck, aNilc, AV.isStr, aLen, AV.one, AV.multi, pureB, szOk, psz, drp, spl, aEqB, aEqA, aMm, aMkfn, aMkif, aBuild, toV, aBuildA, wrP, unparts, view, nilS, St.ev, lk, St.put, St.pin, St.pinV, acall0, acall1, acall2, acall3, bor, bor0, bor1, phiL_nil, phiL_at, tau, lentO, okIds, flatC, flatB, flatOs, flatO, flatPs, place, setAll_nil, setAll_cons, nodupB, renObj, closeIds, addNew, idsOf, idsObj, posOf, lenOk_0, lenOk_1, lenOk_2, lenOk_3, lenOk_4, lenOk_8, ↓reduceIte, Option.isSome_none, Option.isSome_some, Bool.or_true, Bool.true_or,  Nat.reduceEqDiff, Nat.reduceBEq, Nat.reduceSub, Nat.reduceLT, beq_self_eq_true, List.map, List.set, List.map_cons, List.map_nil, List.flatMap_cons, List.flatMap_nil, List.flatten_cons, List.flatten_nil, true_and, and_true, List.length_cons, List.length_nil, Nat.reduceAdd, Nat.reduceLeDiff, List.nil_append, List.cons_append, List.append_nil, Option.map, mapO, ren, kp, kpI, ent, nilG, Option.bind, List.range, List.range.loop, List.getElem?_cons_zero, List.getElem?_cons_succ, List.getElem?_nil, List.getD_cons_zero, List.getD_cons_succ, List.drop_zero, List.drop_succ_cons, List.drop_nil, List.take_zero, List.take_succ_cons, List.all_cons, List.all_nil, List.isEmpty_nil, List.isEmpty_cons, Bool.and_true, Bool.true_and, Bool.not_true, Bool.not_false, List.contains_nil, reduceCtorEq, List.contains_cons, Bool.or_false, Bool.false_or, eq_self, forall_const, false_implies, Bool.false_eq_true, Nat.le_refl, List.length_map, List.length_set, List.length_replicate, and_self, implies_true]
      refine ⟨by omega, by (first | omega | (simp only [lenOk, bytesOk, inI, IntKind.bits, List.length_append, Bs_len, List.length_cons, List.length_nil, List.length_map, List.length_take, List.length_drop, List.length_replicate]; omega)), ⟨by omega, by (first | omega | (simp only [lenOk, bytesOk, inI, IntKind.bits, List.length_append, Bs_len, List.length_cons, List.length_nil, List.length_map, List.length_take, List.length_drop, List.length_replicate]; omega))⟩, ?_⟩
      refine loop_at [] [0, 4] [] (fun a : Nat × List UInt8 => ⟨[(0, .int .i64 (a.1 : Int)), (4, .str a.2)], []⟩) (fun a => decP a.1 ++ a.2 = decDigits m ∧ a.1 ≤ m) (fun a => a.1) (m / 10, [o8 (48 + m % 10)]) rfl ⟨decD_last m, by simp only; omega⟩ ⟨rfl, rfl⟩ (fun a ha => ?_)
      obtain ⟨cur, s⟩ := a
      obtain ⟨ha, hb⟩ := ha
      simp only at ha hb
      have hl := congrArg List.length ha
      rw [List.length_append] at hl
      by_cases hc : cur = 0
      · subst hc
        have d2 : decide ((0 : Int) < ((0 : Nat) : Int)) = false := decide_eq_false (by omega)
        rw [decP_0, List.nil_append] at ha
        subst ha
        simp only [b_rdec_1, t_rdec_0, r_rdec, d2, hit, awp_scope, noG_n, noG_r, noG_x, awp_skip, awp_reg, awp_draw, awp_seq, awp_cond, awp_block, awp_loop, awp_exit, awp_ret, arun_nil, arun_op, arun_gt, arun_gf, arunD_nil, arunD_op, arunD_gt, arunD_gf, aq_some, isB_t, isB_u, isB_f, isB_g, isB_p, isU_t, isU_b, ifB_t, ifB_f, thenQ_n, thenQ_x, thenQ_r, inQ_n, inQ_r, inQ_x, retQ_n, retQ_r, exD, AOp.isH, keepN, preB, avalP, pureR, astep, stV, stN, stE, stC, aval, anew, aElems, frzS, frzH, aeff, slots, aret, ares, aress, AV.isTup, eqFs, aEqS, ofC_i, ofC_b, ofC_s, ofC_U, getD_mapU, getD_Bs, Bs_len, Int.toNat_natCast, opd, pt, tk, subp, rdP, Rt.size, Rt.isAgg, Rt.zv, aBin, aInt, aStr, arI, aUn, aToInt, aToStr, aIdxS, zv, aIdxA, aIa, aIaA, aFa, aLd, aFld, pparts, aLo, aHi, cutL, aSlS, aSl, aExt, aNck, aNilc, AV.isStr, aLen, AV.one, AV.multi, pureB, szOk, psz, drp, spl, aEqB, aEqA, aMm, aMkfn, aMkif, aBuild, toV, aBuildA, wrP, unparts, view, nilS, St.ev, lk, St.put, St.pin, St.pinV, acall0, acall1, acall2, acall3, bor, bor0, bor1, phiL_nil, phiL_at, tau, lentO, okIds, flatC, flatB, flatOs, flatO, flatPs, place, setAll_nil, setAll_cons, nodupB, renObj, closeIds, addNew, idsOf, idsObj, posOf, lenOk_0, lenOk_1, lenOk_2, lenOk_3, lenOk_4, lenOk_8, ↓reduceIte, Option.isSome_none, Option.isSome_some, Bool.or_true, Bool.true_or,  Nat.reduceEqDiff, Nat.reduceBEq, Nat.reduceSub, Nat.reduceLT, beq_self_eq_true, List.map, List.set, List.map_cons, List.map_nil, List.flatMap_cons, List.flatMap_nil, List.flatten_cons, List.flatten_nil, true_and, and_true, List.length_cons, List.length_nil, Nat.reduceAdd, Nat.reduceLeDiff, List.nil_append, List.cons_append, List.append_nil, Option.map, mapO, ren, kp, kpI, ent, nilG, Option.bind, List.range, List.range.loop, List.getElem?_cons_zero, List.getElem?_cons_succ, List.getElem?_nil, List.getD_cons_zero, List.getD_cons_succ, List.drop_zero, List.drop_succ_cons, List.drop_nil, List.take_zero, List.take_succ_cons, List.all_cons, List.all_nil, List.isEmpty_nil, List.isEmpty_cons, Bool.and_true, Bool.true_and, Bool.not_true, Bool.not_false, List.contains_nil, reduceCtorEq, List.contains_cons, Bool.or_false, Bool.false_or, eq_self, forall_const, false_implies, Bool.false_eq_true, Nat.le_refl, List.length_map, List.length_set, List.length_replicate, and_self, implies_true]
        simp only [Bool.false_eq_true, renObj, finP, finI, closeIds, addNew, idsOf, List.flatMap_nil, List.flatMap_cons, List.append_nil, List.nil_append, List.take_zero, nodupB, posOf, idsObj, List.getD_cons_zero, List.getD_cons_succ, List.range, List.range.loop, ren, lentO, mapO, Option.map, ↓reduceIte, Nat.reduceEqDiff, true_and, and_true, List.getElem?_cons_zero, List.getElem?_cons_succ, Nat.reduceAdd, List.contains_nil, Bool.not_false, Bool.and_true, List.map_nil, List.map_cons, List.take_succ_cons]
      · have d2 : decide ((0 : Int) < (cur : Int)) = true := decide_eq_true (by omega)
        simp only [b_rdec_1, d2, e1, e2, e3, wrap8n (show 48 + cur % 10 < 256 by omega), Bs_o8 _ (show 48 + cur % 10 < 256 by omega), unB_Bs, awp_scope, noG_n, noG_r, noG_x, awp_skip, awp_reg, awp_draw, awp_seq, awp_cond, awp_block, awp_loop, awp_exit, awp_ret, arun_nil, arun_op, arun_gt, arun_gf, arunD_nil, arunD_op, arunD_gt, arunD_gf, aq_some, isB_t, isB_u, isB_f, isB_g, isB_p, isU_t, isU_b, ifB_t, ifB_f, thenQ_n, thenQ_x, thenQ_r, inQ_n, inQ_r, inQ_x, retQ_n, retQ_r, exD, AOp.isH, keepN, preB, avalP, pureR, astep, stV, stN, stE, stC, aval, anew, aElems, frzS, frzH, aeff, slots, aret, ares, aress, AV.isTup, eqFs, aEqS, ofC_i, ofC_b, ofC_s, ofC_U, getD_mapU, getD_Bs, Bs_len, Int.toNat_natCast, opd, pt, tk, subp, rdP, Rt.size, Rt.isAgg, Rt.zv, aBin, aInt, aStr, arI, aUn, aToInt, aToStr, aIdxS, zv, aIdxA, aIa, aIaA, aFa, aLd, aFld, pparts, aLo, aHi, cutL, aSlS, aSl, aExt, aNck, aNilc, AV.isStr, aLen, AV.one, AV.multi, pureB, szOk, psz, drp, spl, aEqB, aEqA, aMm, aMkfn, aMkif, aBuild, toV, aBuildA, wrP, unparts, view, nilS, St.ev, lk, St.put, St.pin, St.pinV, acall0, acall1, acall2, acall3, bor, bor0, bor1, phiL_nil, phiL_at, tau, lentO, okIds, flatC, flatB, flatOs, flatO, flatPs, place, setAll_nil, setAll_cons, nodupB, renObj, closeIds, addNew, idsOf, idsObj, posOf, lenOk_0, lenOk_1, lenOk_2, lenOk_3, lenOk_4, lenOk_8, ↓reduceIte, Option.isSome_none, Option.isSome_some, Bool.or_true, Bool.true_or,  Nat.reduceEqDiff, Nat.reduceBEq, Nat.reduceSub, Nat.reduceLT, beq_self_eq_true, List.map, List.set, List.map_cons, List.map_nil, List.flatMap_cons, List.flatMap_nil, List.flatten_cons, List.flatten_nil, true_and, and_true, List.length_cons, List.length_nil, Nat.reduceAdd, Nat.reduceLeDiff, List.nil_append, List.cons_append, List.append_nil, Option.map, mapO, ren, kp, kpI, ent, nilG, Option.bind, List.range, List.range.loop, List.getElem?_cons_zero, List.getElem?_cons_succ, List.getElem?_nil, List.getD_cons_zero, List.getD_cons_succ, List.drop_zero, List.drop_succ_cons, List.drop_nil, List.take_zero, List.take_succ_cons, List.all_cons, List.all_nil, List.isEmpty_nil, List.isEmpty_cons, Bool.and_true, Bool.true_and, Bool.not_true, Bool.not_false, List.contains_nil, reduceCtorEq, List.contains_cons, Bool.or_false, Bool.false_or, eq_self, forall_const, false_implies, Bool.false_eq_true, Nat.le_refl, List.length_map, List.length_set, List.length_replicate, and_self, implies_true]
        refine ⟨by omega, by (first | omega | (simp only [lenOk, bytesOk, inI, IntKind.bits, List.length_append, Bs_len, List.length_cons, List.length_nil, List.length_map, List.length_take, List.length_drop, List.length_replicate]; omega)), by (first | omega | (simp only [lenOk, bytesOk, inI, IntKind.bits, List.length_append, Bs_len, List.length_cons, List.length_nil, List.length_map, List.length_take, List.length_drop, List.length_replicate]; omega)), ⟨by omega, by (first | omega | (simp only [lenOk, bytesOk, inI, IntKind.bits, List.length_append, Bs_len, List.length_cons, List.length_nil, List.length_map, List.length_take, List.length_drop, List.length_replicate]; omega))⟩, (cur / 10, o8 (48 + cur % 10) :: s), ⟨?_, by simp only; omega⟩, by simp only; omega, rfl⟩
        rw [decP_step (by omega), List.append_assoc] at ha
        exact ha
  · cases hs
end Go.Proofs.YtfabdnpeohpgnaaGreatDoor
