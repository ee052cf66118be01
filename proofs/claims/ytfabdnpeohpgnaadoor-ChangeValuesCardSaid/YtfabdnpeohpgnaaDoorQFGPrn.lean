import Derived.Test.YtfabdnpeohpgnaaDoorQFRight
import Derived.Test.YtfabdnpeohpgnaaDoorQFGExs
import Derived.Lib.ItoaLen
import Derived.Test.YtfabdnpeohpgnaaDoorChecked
import Derived.Test.YtfabdnpeohpgnaaDoorQAMS
namespace Go.Proofs.YtfabdnpeohpgnaaDoor
set_option linter.all false
open Go.RowKit
open Go.Lib (index hasPrefix trimPrefix cut indexAny itoa)
theorem exsT_snoc (l : List ExL) (x : ExL) : exsT (l ++ [x]) = exsT l ++ ((if l = [] then [32] else [0]) ++ exT x) := by
  cases l with
  | nil => simp [exsT, joinB]
  | cons y l =>
    rw [if_neg (by simp), List.cons_append, exsT, exsT, List.map_cons, List.map_append, List.map_cons, List.map_nil, joinB, List.map_cons, joinB]
    simp
theorem file_shift : ∀ fs : List (List UInt8), 10 :: fs.flatMap fileT = fs.flatMap ([10] ++ ·) ++ [10]
  | [] => rfl
  | f :: fs => by
    have ih := file_shift fs
    rw [List.flatMap_cons, List.flatMap_cons, fileT, List.append_assoc, show ([10] : List UInt8) ++ fs.flatMap fileT = 10 :: fs.flatMap fileT from rfl, ih]
    simp
theorem join_body (h u da d : List UInt8) (fs : List (List UInt8)) : joinW [10] (h :: u :: da :: (fs ++ [[], d])) = h ++ 10 :: (u ++ 10 :: (da ++ 10 :: (fs.flatMap fileT ++ 10 :: d))) := by
  have := file_shift fs
  rw [joinW, List.flatMap_cons, List.flatMap_cons, List.flatMap_append]
  have e : da ++ 10 :: (fs.flatMap fileT ++ 10 :: d) = da ++ ((10 :: fs.flatMap fileT) ++ 10 :: d) := by simp
  rw [e, this]
  simp
theorem files_len : ∀ fs : List (List UInt8), (fs.flatMap fileT).length = sumL fs + fs.length
  | [] => rfl
  | f :: fs => by
    have ih := files_len fs
    simp only [List.flatMap_cons, List.length_append, fileT, sumL, List.map_cons, List.sum_cons, List.length_cons, List.length_nil] at ih ⊢
    omega
theorem body_len (c : ChgL) : (bodyH c).length = (hexL c.man).length + c.user.length + (dateT c).length + sumL c.files + c.files.length + c.desc.length + 4 := by
  have := files_len c.files
  simp only [bodyH, List.length_append, List.length_cons]; omega
def sizeH (c : ChgL) : Prop := c.man.length = 20 ∧ c.user.length ≤ 1000000 ∧ c.extras.length ≤ 100000 ∧ c.files.length ≤ 100000 ∧ (∀ x ∈ c.extras, x.1.length ≤ 1000000 ∧ x.2.length ≤ 1000000) ∧ (∀ f ∈ c.files, f.length ≤ 1000000) ∧
  (exsT c.extras).length ≤ 100000000 ∧ sumL c.files ≤ 100000000 ∧ c.desc.length ≤ 100000000 ∧ inI c.time ∧ inI c.zone
def gprnR (c : ChgL) (pr : Prop) : Option Ret := if rightH c = true then some ⟨.tup [.own 0 0, .int .i64 0], [.row 5 1 0 (Bs (bodyH c))], pr⟩ else some ⟨.tup [.con (.slice none 0 0), .int .i64 4], [], pr⟩
def argH (m : List Value) (ke : Nat) (es : List AV) (kf : Nat) (fs : List AV) : Prop := m = (unV m).map U ∧ es = (es.map unEx).map exV ∧ fs = (fs.map unS).map AV.str ∧ (ke = 2 ∨ es = []) ∧ kf = 1
def gprnS : Spec := fun xs hp => match xs, hp with
  | [.agg [(20, .blob m), (1, .str u), (1, .int .i64 t), (1, .int .i64 z), (1, .sl ke es), (1, .sl kf fs), (1, .str d)]], [] =>
    gprnR ⟨unV m, u, t, z, es.map unEx, fs.map unS, d⟩ (argH m ke es kf fs ∧ sizeH ⟨unV m, u, t, z, es.map unEx, fs.map unS, d⟩)
  | _, _ => none
theorem gprnR_pre {c : ChgL} {pr : Prop} {r : Ret} (h : gprnR c pr = some r) (hr : r.pre) : pr := by
  unfold gprnR at h
  split at h <;> (injection h with h; subst h; exact hr)
theorem exsT_take (es : List ExL) {i : Nat} (h : i < es.length) : exsT (es.take (i + 1)) = exsT (es.take i) ++ ((if i = 0 then [32] else [0]) ++ exT es[i]) := by
  rw [List.take_add_one, List.getElem?_eq_getElem h, Option.toList_some, exsT_snoc]
  have : (es.take i = []) ↔ i = 0 := by
    constructor
    · intro e; have := congrArg List.length e; rw [List.length_take, List.length_nil] at this; omega
    · rintro rfl; rfl
  by_cases hi : i = 0
  · rw [if_pos hi, if_pos (this.2 hi)]
  · rw [if_neg hi, if_neg (fun e => hi (this.1 e))]
theorem exsT_take_le (es : List ExL) : ∀ (k i : Nat), i + k = es.length → (exsT (es.take i)).length ≤ (exsT es).length
  | 0, i, h => by rw [List.take_of_length_le (by omega)]; exact Nat.le_refl _
  | k + 1, i, h => by
    have ih := exsT_take_le es k (i + 1) (by omega)
    rw [exsT_take es (by omega), List.length_append] at ih; omega
def phiGP : Phi := phiL [(13, [], grightS), (14, [], itoaS), (16, [], hexS), (15, [], gtoldS), (17, [], joinS)]
theorem phiGP_ok : PhiOk Tryd.prog phiGP := phi_cons gright_ok (by kernel_rfl) (phi_cons ndec_ok (by kernel_rfl) (phi_cons hex_ok (by kernel_rfl) (phi_cons gtold_ok (by kernel_rfl) (phi_cons join_ok (by kernel_rfl) phi_nil))))
theorem phiGP_1 : phiGP 13 = some ([], grightS) := rfl
theorem phiGP_2 : phiGP 14 = some ([], itoaS) := rfl
theorem phiGP_3 : phiGP 16 = some ([], hexS) := rfl
theorem phiGP_4 : phiGP 15 = some ([], gtoldS) := rfl
theorem phiGP_5 : phiGP 17 = some ([], joinS) := rfl
set_option maxHeartbeats 4000000 in
theorem gprn_ok : FnOk Tryd.prog 7 gprnS := by
  refine fn_slim2 Tryd.func7 s_gprn phiGP_ok ?_
  intro xs hp r hs hp'
  unfold gprnS at hs
  split at hs
  · rename_i m u t z ke es kf fs d
    obtain ⟨⟨q1, q2, q3, q4, q5⟩, z1, z2, z3, z4, z5, z6, z7, z8, z9, z10, z11⟩ := gprnR_pre hs hp'
    generalize unV m = m at *
    subst q1
    generalize es.map unEx = es at *
    subst q2
    generalize fs.map unS = fs at *
    subst q3 q5
    simp only at z1 z2 z3 z4 z5 z6 z7 z8 z9 z10 z11
    refine ⟨len_le (by kernel_rfl), ?_⟩
    have zk : ∀ x ∈ es, x.1.length ≤ 1000000000 := fun x hx => by have := (z5 x hx).1; omega
    have zf : ∀ f ∈ fs, f.length ≤ 1000000000 := fun f hf => by have := z6 f hf; omega
    cases hr : rightH ⟨m, u, t, z, es, fs, d⟩ with
    | false =>
      unfold gprnR at hs
      rw [if_neg (by rw [hr]; simp)] at hs
      injection hs with hs; subst hs
      simp only [c_gprn, r_gprn, phiGP_1, grightS, unV_U, unEx_map, unS_map, hr, List.length_map, go_sem, Nat.reduceDiv, Nat.reduceMod, ↓reduceIte, Nat.reduceEqDiff, Nat.reduceBEq, Nat.reduceSub, Nat.reduceLT, Nat.reduceAdd, Nat.reduceLeDiff, reduceCtorEq, Int.reduceEq, Int.reduceNe, Int.reduceLT, Int.reduceLE, Int.reduceToNat]
      exact ⟨q4, Or.inl trivial, by omega, by omega, zk, zf, z2⟩
    | true =>
      unfold gprnR at hs
      rw [if_pos hr] at hs
      injection hs with hs; subst hs
      have l1 := Lib.itoa_length_le t z10.1 z10.2
      have l2 := Lib.itoa_length_le z z11.1 z11.2
      simp only [c_gprn, phiGP_1, phiGP_2, grightS, itoaS, unV_U, unEx_map, unS_map, hr, List.length_map, go_sem, Nat.reduceDiv, Nat.reduceMod, ↓reduceIte, Nat.reduceEqDiff, Nat.reduceBEq, Nat.reduceSub, Nat.reduceLT, Nat.reduceAdd, Nat.reduceLeDiff, reduceCtorEq, Int.reduceEq, Int.reduceNe, Int.reduceLT, Int.reduceLE, Int.reduceToNat]
      refine ⟨⟨q4, Or.inl trivial, by omega, by omega, zk, zf, z2⟩, z10, by (first | omega | (simp only [lenOk, bytesOk, inI, IntKind.bits, List.length_append, Bs_len, List.length_cons, List.length_nil, List.length_map, List.length_take, List.length_drop, List.length_replicate]; omega)), z11, by (first | omega | (simp only [lenOk, bytesOk, inI, IntKind.bits, List.length_append, Bs_len, List.length_cons, List.length_nil, List.length_map, List.length_take, List.length_drop, List.length_replicate]; omega)), ?_⟩
      refine loop2P [] [1, 4, 21, 22, 23] [0] (fun i : Nat => ⟨[(1, .ref 0 0 0), (4, .str (itoa t ++ 32 :: (itoa z ++ exsT (es.take i)))), (21, .sl ke (es.map exV)), (22, .int .i64 (es.length : Int)), (23, .int .i64 (i : Int))], [.cells 31 [(20, .blob (m.map U)), (1, .str u), (1, .int .i64 t), (1, .int .i64 z), (1, .sl ke (es.map exV)), (1, .sl 1 (fs.map AV.str)), (1, .str d)]]⟩)
        (fun i => i ≤ es.length) (fun i => es.length - i) 0 ?_ (Nat.zero_le _) ⟨rfl, by rfl⟩ (fun i hi R hR => ?_)
      · have e0 : itoa t ++ [32] ++ itoa z = itoa t ++ 32 :: itoa z := by simp
        simp only [List.take_zero, exsT, List.append_nil, e0]
        rfl
      by_cases hil : i < es.length
      · have c1 : decide ((i : Int) < (es.length : Int)) = true := decide_eq_true (by omega)
        have hk : ke = 2 := q4.resolve_right (by intro h; have := congrArg List.length h; simp at this; rw [this] at hil; simp at hil)
        have hget := getD_map exV es ([], []) (AV.agg [(1, AV.str []), (1, AV.str [])]) hil
        have hga : es.getD i ([], []) = es[i] := by simp [List.getD_eq_getElem?_getD, List.getElem?_eq_getElem hil]
        obtain ⟨x1, x2⟩ := z5 es[i] (List.getElem_mem _)
        have htk := exsT_take es hil
        have hle := exsT_take_le es (es.length - (i + 1)) (i + 1) (by omega)
        subst hk
        generalize es[i] = x at *
        have htl := tol_len x.2
        rw [htk, List.length_append, List.length_append] at hle
        unfold exT at htk hle
        rw [List.length_append, List.length_cons] at hle
        by_cases h0 : i = 0
        · have d0 : decide ((i : Int) = 0) = true := decide_eq_true (by omega)
          rw [if_pos h0] at htk hle
          simp only [b_gprn_0, c1, d0, hget, hga, exV, phiGP_4, gtoldS, Int.toNat_natCast, List.length_map, go_sem, Nat.reduceDiv, Nat.reduceMod, ↓reduceIte, Nat.reduceEqDiff, Nat.reduceBEq, Nat.reduceSub, Nat.reduceLT, Nat.reduceAdd, Nat.reduceLeDiff, reduceCtorEq, Int.reduceEq, Int.reduceNe, Int.reduceLT, Int.reduceLE, Int.reduceToNat]
          refine ⟨⟨by omega, by omega⟩, by (first | omega | (simp only [lenOk, bytesOk, inI, IntKind.bits, List.length_append, Bs_len, List.length_cons, List.length_nil, List.length_map, List.length_take, List.length_drop, List.length_replicate]; omega)), by (first | omega | (simp only [lenOk, bytesOk, inI, IntKind.bits, List.length_append, Bs_len, List.length_cons, List.length_nil, List.length_map, List.length_take, List.length_drop, List.length_replicate]; omega)), by omega, by (first | omega | (simp only [lenOk, bytesOk, inI, IntKind.bits, List.length_append, Bs_len, List.length_cons, List.length_nil, List.length_map, List.length_take, List.length_drop, List.length_replicate]; omega)), by (first | omega | (simp only [lenOk, bytesOk, inI, IntKind.bits, List.length_append, Bs_len, List.length_cons, List.length_nil, List.length_map, List.length_take, List.length_drop, List.length_replicate]; omega)), ⟨by omega, by omega⟩, ?_⟩
          have e : itoa t ++ 32 :: (itoa z ++ exsT (es.take (i + 1))) = itoa t ++ 32 :: (itoa z ++ exsT (List.take i es)) ++ 32 :: (x.1 ++ [58] ++ tolL x.2) := by rw [htk]; simp
          rw [← e]
          exact hR _ (i + 1) hil (by omega) rfl
        · have d0 : decide ((i : Int) = 0) = false := decide_eq_false (by omega)
          rw [if_neg h0] at htk hle
          simp only [b_gprn_0, c1, d0, hget, hga, exV, phiGP_4, gtoldS, Int.toNat_natCast, List.length_map, go_sem, Nat.reduceDiv, Nat.reduceMod, ↓reduceIte, Nat.reduceEqDiff, Nat.reduceBEq, Nat.reduceSub, Nat.reduceLT, Nat.reduceAdd, Nat.reduceLeDiff, reduceCtorEq, Int.reduceEq, Int.reduceNe, Int.reduceLT, Int.reduceLE, Int.reduceToNat]
          refine ⟨⟨by omega, by omega⟩, by (first | omega | (simp only [lenOk, bytesOk, inI, IntKind.bits, List.length_append, Bs_len, List.length_cons, List.length_nil, List.length_map, List.length_take, List.length_drop, List.length_replicate]; omega)), by (first | omega | (simp only [lenOk, bytesOk, inI, IntKind.bits, List.length_append, Bs_len, List.length_cons, List.length_nil, List.length_map, List.length_take, List.length_drop, List.length_replicate]; omega)), by omega, by (first | omega | (simp only [lenOk, bytesOk, inI, IntKind.bits, List.length_append, Bs_len, List.length_cons, List.length_nil, List.length_map, List.length_take, List.length_drop, List.length_replicate]; omega)), by (first | omega | (simp only [lenOk, bytesOk, inI, IntKind.bits, List.length_append, Bs_len, List.length_cons, List.length_nil, List.length_map, List.length_take, List.length_drop, List.length_replicate]; omega)), ⟨by omega, by omega⟩, ?_⟩
          have e : itoa t ++ 32 :: (itoa z ++ exsT (es.take (i + 1))) = itoa t ++ 32 :: (itoa z ++ exsT (List.take i es)) ++ 0 :: (x.1 ++ [58] ++ tolL x.2) := by rw [htk]; simp
          rw [← e]
          exact hR _ (i + 1) hil (by omega) rfl
      · have c1 : decide ((i : Int) < (es.length : Int)) = false := decide_eq_false (by omega)
        rw [List.take_of_length_le (by omega)]
        simp only [b_gprn_0, t_gprn_0, r_gprn, c1, phiGP_3, phiGP_5, hexS, joinS, unV_U, List.length_map, if_pos, go_sem, Nat.reduceDiv, Nat.reduceMod, ↓reduceIte, Nat.reduceEqDiff, Nat.reduceBEq, Nat.reduceSub, Nat.reduceLT, Nat.reduceAdd, Nat.reduceLeDiff, reduceCtorEq, Int.reduceEq, Int.reduceNe, Int.reduceLT, Int.reduceLE, Int.reduceToNat]
        have eR : fs.map AV.str ++ [AV.str [], AV.str d] = (fs ++ [[], d]).map AV.str := by simp
        have eJ : joinW [10] (unS (AV.str (hexL m)) :: unS (AV.str u) :: unS (AV.str (itoa t ++ 32 :: (itoa z ++ exsT es))) :: (fs ++ [[], d])) = bodyH ⟨m, u, t, z, es, fs, d⟩ := join_body _ _ _ _ _
        have hb := body_len ⟨m, u, t, z, es, fs, d⟩
        have hh := hexL_length m
        have hd : (dateT ⟨m, u, t, z, es, fs, d⟩).length = (itoa t).length + (1 + (itoa z).length + (exsT es).length) := by unfold dateT; simp only [List.length_append, List.length_cons]; omega
        simp only at hb
        rw [eR, unS_map, List.length_map, List.length_append, eJ]
        have hs : sumL (unS (AV.str (hexL m)) :: unS (AV.str u) :: unS (AV.str (itoa t ++ 32 :: (itoa z ++ exsT es))) :: (fs ++ [[], d])) = (hexL m).length + (u.length + ((dateT ⟨m, u, t, z, es, fs, d⟩).length + (sumL fs + d.length))) := by
          simp only [sumL, unS, dateT, List.map_cons, List.sum_cons, List.map_append, List.sum_append, List.map_nil, List.sum_nil, List.length_nil]; omega
        refine ⟨z1, ⟨by (first | omega | (simp only [lenOk, bytesOk, inI, IntKind.bits, List.length_append, Bs_len, List.length_cons, List.length_nil, List.length_map, List.length_take, List.length_drop, List.length_replicate]; omega)), by (first | omega | (simp only [lenOk, bytesOk, inI, IntKind.bits, List.length_append, Bs_len, List.length_cons, List.length_nil, List.length_map, List.length_take, List.length_drop, List.length_replicate]; omega))⟩, ⟨by (first | omega | (simp only [lenOk, bytesOk, inI, IntKind.bits, List.length_append, Bs_len, List.length_cons, List.length_nil, List.length_map, List.length_take, List.length_drop, List.length_replicate]; omega)), by (first | omega | (simp only [lenOk, bytesOk, inI, IntKind.bits, List.length_append, Bs_len, List.length_cons, List.length_nil, List.length_map, List.length_take, List.length_drop, List.length_replicate]; omega))⟩, ⟨rfl, Or.inl trivial, by simp only [List.length_cons, List.length_nil]; omega, by rw [hs]; omega⟩, by (first | omega | (simp only [lenOk, bytesOk, inI, IntKind.bits, List.length_append, Bs_len, List.length_cons, List.length_nil, List.length_map, List.length_take, List.length_drop, List.length_replicate]; omega)), rfl⟩
  · cases hs
end Go.Proofs.YtfabdnpeohpgnaaDoor
namespace Go.Proofs.YtfabdnpeohpgnaaDoor
set_option linter.all false
open Go.RowKit
def b_glto_0 : ACode := (.seq (.seq (.reg none [⟨(some 28), (.mv (.t 4)), none⟩, ⟨(some 29), (.fa 23 (.t 1)), none⟩, ⟨(some 30), (.ld (.one (.con (.slice none 0 0))) (.t 29)), none⟩, ⟨(some 31), (.len none false (.t 30)), none⟩, ⟨(some 32), (.bin .lss (.t 28) (.t 31)), none⟩, ⟨(some 33), (.mv (.t 32)), none⟩, ⟨(some 34), (.mv (.t 4)), (some (33, true))⟩, ⟨(some 35), (.bin .lss (.t 34) (.c (.int .i64 20))), (some (33, true))⟩, ⟨(some 36), (.pick (.t 33) (.t 35) (.c (.bool false))), none⟩]) (.cond (.t 36) .skip (.exit 0))) (.seq (.block 1 (.seq (.reg none [⟨(some 39), (.fa 23 (.t 1)), none⟩, ⟨(some 40), (.ld (.one (.con (.slice none 0 0))) (.t 39)), none⟩, ⟨(some 41), (.mv (.t 4)), none⟩, ⟨(some 42), (.ia 2 (.agg [(1, (.str [])), (1, (.str []))]) (.t 40) (.t 41)), none⟩, ⟨(some 43), (.ld (.st 2) (.t 42)), none⟩, ⟨(some 5), (.new 48 [(1, (.str [])), (1, (.str []))]), none⟩, ⟨none, (.st (.st 2) (.t 5) (.t 43)), none⟩]) (.reg (some [(0, false), (1, false), (2, false), (3, false), (4, false), (5, false), (6, false), (7, false), (8, false), (9, false), (10, false), (11, false), (12, false), (13, false), (14, false), (15, false), (16, false), (17, false), (18, true), (19, true), (20, true)]) [⟨(some 44), (.fa 23 (.t 3)), none⟩, ⟨(some 45), (.ld (.one (.con (.slice none 0 0))) (.t 44)), none⟩, ⟨(some 46), (.fa 0 (.t 5)), none⟩, ⟨(some 47), (.ld (.one (.str [])) (.t 46)), none⟩, ⟨(some 48), (.fa 0 (.t 5)), none⟩, ⟨(some 49), (.ld (.one (.str [])) (.t 48)), none⟩, ⟨(some 50), (.len none true (.t 49)), none⟩, ⟨(some 51), (.mm false (.t 50) (.c (.int .i64 150))), none⟩, ⟨(some 52), (.slS (.t 47) none (some (.t 51))), none⟩, ⟨(some 53), (.fa 1 (.t 5)), none⟩, ⟨(some 54), (.ld (.one (.str [])) (.t 53)), none⟩, ⟨(some 55), (.fa 1 (.t 5)), none⟩, ⟨(some 56), (.ld (.one (.str [])) (.t 55)), none⟩, ⟨(some 57), (.len none true (.t 56)), none⟩, ⟨(some 58), (.mm false (.t 57) (.c (.int .i64 200))), none⟩, ⟨(some 59), (.slS (.t 54) none (some (.t 58))), none⟩, ⟨(some 60), (.build [(1, (.str [])), (1, (.str []))] [(0, (1, (.t 52))), (1, (1, (.t 59)))]), none⟩, ⟨(some 61), (.buildSl 44 2 [(.t 60)]), none⟩, ⟨(some 62), (.app 44 2 32 (.t 45) (.t 61)), none⟩, ⟨(some 63), (.fa 23 (.t 3)), none⟩, ⟨none, (.st (.one (.con (.slice none 0 0))) (.t 63) (.t 62)), none⟩]))) (.reg none [⟨(some 37), (.mv (.t 4)), none⟩, ⟨(some 38), (.bin .add (.t 37) (.c (.int .i64 1))), none⟩, ⟨(some 4), (.mv (.t 38)), none⟩])))
def b_glto_1 : ACode := (.seq (.seq (.reg none [⟨(some 64), (.mv (.t 6)), none⟩, ⟨(some 65), (.fa 24 (.t 1)), none⟩, ⟨(some 66), (.ld (.one (.con (.slice none 0 0))) (.t 65)), none⟩, ⟨(some 67), (.len none false (.t 66)), none⟩, ⟨(some 68), (.bin .lss (.t 64) (.t 67)), none⟩, ⟨(some 69), (.mv (.t 68)), none⟩, ⟨(some 70), (.mv (.t 6)), (some (69, true))⟩, ⟨(some 71), (.bin .lss (.t 70) (.c (.int .i64 20))), (some (69, true))⟩, ⟨(some 72), (.pick (.t 69) (.t 71) (.c (.bool false))), none⟩]) (.cond (.t 72) .skip (.exit 2))) (.seq (.block 3 (.reg (some [(0, false), (1, false), (2, false), (3, false), (4, false), (5, false), (6, false), (7, false), (8, false), (9, false), (10, false), (11, false), (12, false), (13, false), (14, false), (15, false), (16, true), (17, true), (18, true)]) [⟨(some 75), (.fa 24 (.t 3)), none⟩, ⟨(some 76), (.ld (.one (.con (.slice none 0 0))) (.t 75)), none⟩, ⟨(some 77), (.fa 24 (.t 1)), none⟩, ⟨(some 78), (.ld (.one (.con (.slice none 0 0))) (.t 77)), none⟩, ⟨(some 79), (.mv (.t 6)), none⟩, ⟨(some 80), (.ia 1 (.str []) (.t 78) (.t 79)), none⟩, ⟨(some 81), (.ld (.one (.str [])) (.t 80)), none⟩, ⟨(some 82), (.fa 24 (.t 1)), none⟩, ⟨(some 83), (.ld (.one (.con (.slice none 0 0))) (.t 82)), none⟩, ⟨(some 84), (.mv (.t 6)), none⟩, ⟨(some 85), (.ia 1 (.str []) (.t 83) (.t 84)), none⟩, ⟨(some 86), (.ld (.one (.str [])) (.t 85)), none⟩, ⟨(some 87), (.len none true (.t 86)), none⟩, ⟨(some 88), (.mm false (.t 87) (.c (.int .i64 300))), none⟩, ⟨(some 89), (.slS (.t 81) none (some (.t 88))), none⟩, ⟨(some 90), (.buildSl 9 1 [(.t 89)]), none⟩, ⟨(some 91), (.app 9 1 16 (.t 76) (.t 90)), none⟩, ⟨(some 92), (.fa 24 (.t 3)), none⟩, ⟨none, (.st (.one (.con (.slice none 0 0))) (.t 92) (.t 91)), none⟩])) (.reg none [⟨(some 73), (.mv (.t 6)), none⟩, ⟨(some 74), (.bin .add (.t 73) (.c (.int .i64 1))), none⟩, ⟨(some 6), (.mv (.t 74)), none⟩])))
def t_glto_0 : ACode := (.seq (.reg none [⟨(some 93), (.ld (.st 26) (.t 3)), none⟩, ⟨none, (.st (.st 26) (.t 2) (.t 93)), none⟩]) .ret)
def t_glto_1 : ACode := (.seq (.seq (.reg none [⟨(some 6), (.mv (.c (.int .i64 0))), none⟩]) (.block 2 (.loop b_glto_1))) t_glto_0)
def c_glto : ACode := (.seq (.reg none [⟨(some 1), (.box 26 26 (.t 0)), none⟩, ⟨(some 2), (.new 31 [(20, (.blob (List.replicate 20 (.int .u8 0)))), (1, (.str [])), (1, (.int .i64 0)), (1, (.int .i64 0)), (1, (.con (.slice none 0 0))), (1, (.con (.slice none 0 0))), (1, (.str []))]), none⟩]) (.seq (.reg (some [(0, false), (1, false), (2, false), (3, false), (4, false), (5, false), (6, false), (7, false), (8, false), (9, false), (10, false), (11, false), (12, false), (13, false), (14, false), (15, false), (16, false), (17, false), (18, false), (19, false), (20, false), (21, false), (22, true)]) [⟨(some 7), (.fa 0 (.t 1)), none⟩, ⟨(some 8), (.ld (.arr 20) (.t 7)), none⟩, ⟨(some 9), (.fa 20 (.t 1)), none⟩, ⟨(some 10), (.ld (.one (.str [])) (.t 9)), none⟩, ⟨(some 11), (.fa 20 (.t 1)), none⟩, ⟨(some 12), (.ld (.one (.str [])) (.t 11)), none⟩, ⟨(some 13), (.len none true (.t 12)), none⟩, ⟨(some 14), (.mm false (.t 13) (.c (.int .i64 200))), none⟩, ⟨(some 15), (.slS (.t 10) none (some (.t 14))), none⟩, ⟨(some 16), (.fa 21 (.t 1)), none⟩, ⟨(some 17), (.ld (.one (.int .i64 0)) (.t 16)), none⟩, ⟨(some 18), (.fa 22 (.t 1)), none⟩, ⟨(some 19), (.ld (.one (.int .i64 0)) (.t 18)), none⟩, ⟨(some 20), (.fa 25 (.t 1)), none⟩, ⟨(some 21), (.ld (.one (.str [])) (.t 20)), none⟩, ⟨(some 22), (.fa 25 (.t 1)), none⟩, ⟨(some 23), (.ld (.one (.str [])) (.t 22)), none⟩, ⟨(some 24), (.len none true (.t 23)), none⟩, ⟨(some 25), (.mm false (.t 24) (.c (.int .i64 500))), none⟩, ⟨(some 26), (.slS (.t 21) none (some (.t 25))), none⟩, ⟨(some 27), (.build [(20, (.blob (List.replicate 20 (.int .u8 0)))), (1, (.str [])), (1, (.int .i64 0)), (1, (.int .i64 0)), (1, (.con (.slice none 0 0))), (1, (.con (.slice none 0 0))), (1, (.str []))] [(0, (20, (.t 8))), (20, (1, (.t 15))), (21, (1, (.t 17))), (22, (1, (.t 19))), (25, (1, (.t 26)))]), none⟩, ⟨(some 3), (.new 31 [(20, (.blob (List.replicate 20 (.int .u8 0)))), (1, (.str [])), (1, (.int .i64 0)), (1, (.int .i64 0)), (1, (.con (.slice none 0 0))), (1, (.con (.slice none 0 0))), (1, (.str []))]), none⟩, ⟨none, (.st (.st 26) (.t 3) (.t 27)), none⟩]) (.seq (.seq (.reg none [⟨(some 4), (.mv (.c (.int .i64 0))), none⟩]) (.block 0 (.loop b_glto_0))) t_glto_1)))
def r_glto : List ARes := [(.c 2 (.st 26))]
theorem s_glto : slimF Tryd.prog Tryd.f6 = some (c_glto, r_glto) := by kernel_rfl
def b_glof_0 : ACode := (.seq (.seq (.reg none [⟨(some 16), (.mv (.t 4)), none⟩, ⟨(some 17), (.fa 23 (.t 1)), none⟩, ⟨(some 18), (.ld (.one (.con (.slice none 0 0))) (.t 17)), none⟩, ⟨(some 19), (.len none false (.t 18)), none⟩, ⟨(some 20), (.bin .lss (.t 16) (.t 19)), none⟩]) (.cond (.t 20) .skip (.exit 0))) (.seq (.block 1 (.reg (some [(0, false), (1, false), (2, false), (3, false), (4, false), (5, false), (6, false), (7, false), (8, false), (9, false), (10, false), (11, false), (12, false), (13, false), (14, false), (15, false), (16, true), (17, true), (18, true)]) [⟨(some 23), (.fa 23 (.t 3)), none⟩, ⟨(some 24), (.ld (.one (.con (.slice none 0 0))) (.t 23)), none⟩, ⟨(some 25), (.fa 23 (.t 1)), none⟩, ⟨(some 26), (.ld (.one (.con (.slice none 0 0))) (.t 25)), none⟩, ⟨(some 27), (.mv (.t 4)), none⟩, ⟨(some 28), (.ia 2 (.agg [(1, (.str [])), (1, (.str []))]) (.t 26) (.t 27)), none⟩, ⟨(some 29), (.fa 0 (.t 28)), none⟩, ⟨(some 30), (.ld (.one (.str [])) (.t 29)), none⟩, ⟨(some 31), (.fa 23 (.t 1)), none⟩, ⟨(some 32), (.ld (.one (.con (.slice none 0 0))) (.t 31)), none⟩, ⟨(some 33), (.mv (.t 4)), none⟩, ⟨(some 34), (.ia 2 (.agg [(1, (.str [])), (1, (.str []))]) (.t 32) (.t 33)), none⟩, ⟨(some 35), (.fa 1 (.t 34)), none⟩, ⟨(some 36), (.ld (.one (.str [])) (.t 35)), none⟩, ⟨(some 37), (.build [(1, (.str [])), (1, (.str []))] [(0, (1, (.t 30))), (1, (1, (.t 36)))]), none⟩, ⟨(some 38), (.buildSl 48 2 [(.t 37)]), none⟩, ⟨(some 39), (.app 48 2 32 (.t 24) (.t 38)), none⟩, ⟨(some 40), (.fa 23 (.t 3)), none⟩, ⟨none, (.st (.one (.con (.slice none 0 0))) (.t 40) (.t 39)), none⟩])) (.reg none [⟨(some 21), (.mv (.t 4)), none⟩, ⟨(some 22), (.bin .add (.t 21) (.c (.int .i64 1))), none⟩, ⟨(some 4), (.mv (.t 22)), none⟩])))
def t_glof_0 : ACode := (.seq (.reg none [⟨(some 41), (.fa 24 (.t 3)), none⟩, ⟨(some 42), (.ld (.one (.con (.slice none 0 0))) (.t 41)), none⟩, ⟨(some 43), (.fa 24 (.t 1)), none⟩, ⟨(some 44), (.ld (.one (.con (.slice none 0 0))) (.t 43)), none⟩, ⟨(some 45), (.app 9 1 16 (.t 42) (.t 44)), none⟩, ⟨(some 46), (.fa 24 (.t 3)), none⟩, ⟨none, (.st (.one (.con (.slice none 0 0))) (.t 46) (.t 45)), none⟩]) (.seq (.reg none [⟨(some 47), (.ld (.st 26) (.t 3)), none⟩, ⟨none, (.st (.st 26) (.t 2) (.t 47)), none⟩]) .ret))
def c_glof : ACode := (.seq (.reg none [⟨(some 1), (.box 31 26 (.t 0)), none⟩, ⟨(some 2), (.new 26 [(20, (.blob (List.replicate 20 (.int .u8 0)))), (1, (.str [])), (1, (.int .i64 0)), (1, (.int .i64 0)), (1, (.con (.slice none 0 0))), (1, (.con (.slice none 0 0))), (1, (.str []))]), none⟩]) (.seq (.reg none [⟨(some 5), (.fa 0 (.t 1)), none⟩, ⟨(some 6), (.ld (.arr 20) (.t 5)), none⟩, ⟨(some 7), (.fa 20 (.t 1)), none⟩, ⟨(some 8), (.ld (.one (.str [])) (.t 7)), none⟩, ⟨(some 9), (.fa 21 (.t 1)), none⟩, ⟨(some 10), (.ld (.one (.int .i64 0)) (.t 9)), none⟩, ⟨(some 11), (.fa 22 (.t 1)), none⟩, ⟨(some 12), (.ld (.one (.int .i64 0)) (.t 11)), none⟩, ⟨(some 13), (.fa 25 (.t 1)), none⟩, ⟨(some 14), (.ld (.one (.str [])) (.t 13)), none⟩, ⟨(some 15), (.build [(20, (.blob (List.replicate 20 (.int .u8 0)))), (1, (.str [])), (1, (.int .i64 0)), (1, (.int .i64 0)), (1, (.con (.slice none 0 0))), (1, (.con (.slice none 0 0))), (1, (.str []))] [(0, (20, (.t 6))), (20, (1, (.t 8))), (21, (1, (.t 10))), (22, (1, (.t 12))), (25, (1, (.t 14)))]), none⟩, ⟨(some 3), (.new 26 [(20, (.blob (List.replicate 20 (.int .u8 0)))), (1, (.str [])), (1, (.int .i64 0)), (1, (.int .i64 0)), (1, (.con (.slice none 0 0))), (1, (.con (.slice none 0 0))), (1, (.str []))]), none⟩, ⟨none, (.st (.st 26) (.t 3) (.t 15)), none⟩]) (.seq (.seq (.reg none [⟨(some 4), (.mv (.c (.int .i64 0))), none⟩]) (.block 0 (.loop b_glof_0))) t_glof_0)))
def r_glof : List ARes := [(.c 2 (.st 26))]
theorem s_glof : slimF Tryd.prog Tryd.f10 = some (c_glof, r_glof) := by kernel_rfl
def c_gknown : ACode := (.seq (.reg none [⟨(some 0), (.mv (.c (.bool false))), none⟩]) (.seq (.reg none [⟨(some 6), (.build [(1, (.str [])), (1, (.str []))] [(0, (1, (.c (.str [98, 114, 97, 110, 99, 104])))), (1, (1, (.c (.str [120, 10]))))]), none⟩, ⟨(some 7), (.buildSl 44 2 [(.t 6)]), none⟩, ⟨(some 8), (.buildSl 9 1 [(.c (.str [97]))]), none⟩, ⟨(some 9), (.build [(20, (.blob (List.replicate 20 (.int .u8 0)))), (1, (.str [])), (1, (.int .i64 0)), (1, (.int .i64 0)), (1, (.con (.slice none 0 0))), (1, (.con (.slice none 0 0))), (1, (.str []))] [(20, (1, (.c (.str [117])))), (23, (1, (.t 7))), (24, (1, (.t 8))), (25, (1, (.c (.str [100]))))]), none⟩, ⟨(some 10), (.call 7 [(.t 9)]), none⟩, ⟨(some 5), (.mv (.t 10)), none⟩, ⟨(some 11), (.ext (.t 5) 0), none⟩, ⟨(some 12), (.ext (.t 5) 1), none⟩, ⟨(some 1), (.mv (.t 11)), none⟩, ⟨(some 2), (.mv (.t 12)), none⟩]) (.seq (.reg none [⟨(some 14), (.mv (.t 1)), none⟩, ⟨(some 15), (.call 8 [(.t 14)]), none⟩, ⟨(some 13), (.mv (.t 15)), none⟩, ⟨(some 16), (.ext (.t 13) 0), none⟩, ⟨(some 17), (.ext (.t 13) 1), none⟩, ⟨(some 3), (.new 31 [(20, (.blob (List.replicate 20 (.int .u8 0)))), (1, (.str [])), (1, (.int .i64 0)), (1, (.int .i64 0)), (1, (.con (.slice none 0 0))), (1, (.con (.slice none 0 0))), (1, (.str []))]), none⟩, ⟨none, (.st (.st 26) (.t 3) (.t 16)), none⟩, ⟨(some 4), (.mv (.t 17)), none⟩]) (.seq (.reg none [⟨(some 18), (.mv (.t 2)), none⟩, ⟨(some 19), (.bin .eql (.t 18) (.c (.int .i64 0))), none⟩, ⟨(some 20), (.mv (.t 19)), none⟩, ⟨(some 21), (.mv (.t 1)), (some (20, true))⟩, ⟨(some 22), (.len none false (.t 21)), (some (20, true))⟩, ⟨(some 23), (.bin .gtr (.t 22) (.c (.int .i64 43))), (some (20, true))⟩, ⟨(some 24), (.pick (.t 20) (.t 23) (.c (.bool false))), none⟩, ⟨(some 25), (.mv (.t 24)), none⟩, ⟨(some 26), (.mv (.t 1)), (some (25, true))⟩, ⟨(some 27), (.sl 1 (.t 26) (some (.c (.int .i64 40))) none), (some (25, true))⟩, ⟨(some 28), (.toStr (.t 27)), (some (25, true))⟩, ⟨(some 29), (.bin .eql (.t 28) (.c (.str [10, 117, 10, 48, 32, 48, 32, 98, 114, 97, 110, 99, 104, 58, 120, 92, 110, 10, 97, 10, 10, 100]))), (some (25, true))⟩, ⟨(some 30), (.pick (.t 25) (.t 29) (.c (.bool false))), none⟩, ⟨(some 31), (.mv (.t 30)), none⟩, ⟨(some 32), (.mv (.t 4)), (some (31, true))⟩, ⟨(some 33), (.bin .eql (.t 32) (.c (.int .i64 0))), (some (31, true))⟩, ⟨(some 34), (.pick (.t 31) (.t 33) (.c (.bool false))), none⟩, ⟨(some 35), (.mv (.t 34)), none⟩, ⟨(some 36), (.fa 25 (.t 3)), (some (35, true))⟩, ⟨(some 37), (.ld (.one (.str [])) (.t 36)), (some (35, true))⟩, ⟨(some 38), (.bin .eql (.t 37) (.c (.str [100]))), (some (35, true))⟩, ⟨(some 39), (.pick (.t 35) (.t 38) (.c (.bool false))), none⟩, ⟨(some 40), (.mv (.t 39)), none⟩, ⟨(some 41), (.fa 23 (.t 3)), (some (40, true))⟩, ⟨(some 42), (.ld (.one (.con (.slice none 0 0))) (.t 41)), (some (40, true))⟩, ⟨(some 43), (.len none false (.t 42)), (some (40, true))⟩, ⟨(some 44), (.bin .eql (.t 43) (.c (.int .i64 1))), (some (40, true))⟩, ⟨(some 45), (.pick (.t 40) (.t 44) (.c (.bool false))), none⟩, ⟨(some 0), (.mv (.t 45)), none⟩]) .ret))))
def r_gknown : List ARes := [(.t 0)]
theorem s_gknown : slimF Tryd.prog Tryd.f11 = some (c_gknown, r_gknown) := by kernel_rfl
def c_glback : ACode := (.seq (.reg none [⟨(some 2), (.box 26 26 (.t 0)), none⟩, ⟨(some 4), (.mv (.c (.bool false))), none⟩]) (.seq (.reg none [⟨(some 14), (.ld (.st 26) (.t 2)), none⟩, ⟨(some 15), (.call 6 [(.t 14)]), none⟩, ⟨(some 5), (.new 31 [(20, (.blob (List.replicate 20 (.int .u8 0)))), (1, (.str [])), (1, (.int .i64 0)), (1, (.int .i64 0)), (1, (.con (.slice none 0 0))), (1, (.con (.slice none 0 0))), (1, (.str []))]), none⟩, ⟨none, (.st (.st 26) (.t 5) (.t 15)), none⟩]) (.seq (.reg none [⟨(some 17), (.ld (.st 26) (.t 5)), none⟩, ⟨(some 18), (.call 7 [(.t 17)]), none⟩, ⟨(some 16), (.mv (.t 18)), none⟩, ⟨(some 19), (.ext (.t 16) 0), none⟩, ⟨(some 20), (.ext (.t 16) 1), none⟩, ⟨(some 6), (.mv (.t 19)), none⟩, ⟨(some 7), (.mv (.t 20)), none⟩]) (.seq (.seq (.reg none [⟨(some 21), (.mv (.t 7)), none⟩, ⟨(some 22), (.bin .eql (.t 21) (.c (.int .i64 0))), none⟩]) (.cond (.t 22) (.seq (.reg none [⟨(some 24), (.mv (.t 6)), none⟩, ⟨(some 25), (.call 8 [(.t 24)]), none⟩, ⟨(some 23), (.mv (.t 25)), none⟩, ⟨(some 26), (.ext (.t 23) 0), none⟩, ⟨(some 27), (.ext (.t 23) 1), none⟩, ⟨(some 8), (.new 31 [(20, (.blob (List.replicate 20 (.int .u8 0)))), (1, (.str [])), (1, (.int .i64 0)), (1, (.int .i64 0)), (1, (.con (.slice none 0 0))), (1, (.con (.slice none 0 0))), (1, (.str []))]), none⟩, ⟨none, (.st (.st 26) (.t 8) (.t 26)), none⟩, ⟨(some 9), (.mv (.t 27)), none⟩]) (.seq (.reg (some [(0, true), (1, true), (2, true), (3, false), (4, false), (4, false), (6, true), (7, true), (8, true), (9, true)]) [⟨(some 28), (.mv (.t 9)), none⟩, ⟨(some 29), (.bin .neq (.t 28) (.c (.int .i64 0))), none⟩, ⟨(some 30), (.mv (.t 29)), none⟩, ⟨(some 31), (.ld (.st 26) (.t 5)), (some (30, false))⟩, ⟨(some 32), (.call 10 [(.t 31)]), (some (30, false))⟩, ⟨(some 33), (.ld (.st 26) (.t 8)), (some (30, false))⟩, ⟨(some 34), (.call 10 [(.t 33)]), (some (30, false))⟩, ⟨(some 35), (.call 9 [(.t 32), (.t 34)]), (some (30, false))⟩, ⟨(some 36), (.un .not (.t 35)), (some (30, false))⟩, ⟨(some 37), (.pick (.t 30) (.c (.bool true)) (.t 36)), none⟩]) (.cond (.t 37) (.seq (.reg none [⟨(some 4), (.mv (.c (.bool false))), none⟩]) .ret) .skip))) .skip)) (.seq (.reg none [⟨(some 38), (.mv (.t 1)), none⟩, ⟨(some 39), (.mv (.t 1)), none⟩, ⟨(some 40), (.len none false (.t 39)), none⟩, ⟨(some 41), (.mm false (.t 40) (.c (.int .i64 2000))), none⟩, ⟨(some 42), (.sl 1 (.t 38) none (some (.t 41))), none⟩, ⟨(some 1), (.mv (.t 42)), none⟩]) (.seq (.reg none [⟨(some 44), (.mv (.t 1)), none⟩, ⟨(some 45), (.call 8 [(.t 44)]), none⟩, ⟨(some 43), (.mv (.t 45)), none⟩, ⟨(some 46), (.ext (.t 43) 0), none⟩, ⟨(some 47), (.ext (.t 43) 1), none⟩, ⟨(some 10), (.new 31 [(20, (.blob (List.replicate 20 (.int .u8 0)))), (1, (.str [])), (1, (.int .i64 0)), (1, (.int .i64 0)), (1, (.con (.slice none 0 0))), (1, (.con (.slice none 0 0))), (1, (.str []))]), none⟩, ⟨none, (.st (.st 26) (.t 10) (.t 46)), none⟩, ⟨(some 11), (.mv (.t 47)), none⟩]) (.seq (.seq (.reg none [⟨(some 48), (.mv (.t 11)), none⟩, ⟨(some 49), (.bin .eql (.t 48) (.c (.int .i64 0))), none⟩]) (.cond (.t 49) (.seq (.reg none [⟨(some 51), (.ld (.st 26) (.t 10)), none⟩, ⟨(some 52), (.call 7 [(.t 51)]), none⟩, ⟨(some 50), (.mv (.t 52)), none⟩, ⟨(some 53), (.ext (.t 50) 0), none⟩, ⟨(some 54), (.ext (.t 50) 1), none⟩, ⟨(some 12), (.mv (.t 53)), none⟩, ⟨(some 13), (.mv (.t 54)), none⟩]) (.seq (.reg none [⟨(some 55), (.mv (.t 13)), none⟩, ⟨(some 56), (.bin .neq (.t 55) (.c (.int .i64 0))), none⟩, ⟨(some 57), (.mv (.t 56)), none⟩, ⟨(some 58), (.mv (.t 12)), (some (57, false))⟩, ⟨(some 59), (.toStr (.t 58)), (some (57, false))⟩, ⟨(some 60), (.mv (.t 1)), (some (57, false))⟩, ⟨(some 61), (.toStr (.t 60)), (some (57, false))⟩, ⟨(some 62), (.bin .neq (.t 59) (.t 61)), (some (57, false))⟩, ⟨(some 63), (.pick (.t 57) (.c (.bool true)) (.t 62)), none⟩]) (.cond (.t 63) (.seq (.reg none [⟨(some 4), (.mv (.c (.bool false))), none⟩]) .ret) .skip))) .skip)) (.seq (.reg none [⟨(some 64), (.call 11 []), none⟩, ⟨(some 4), (.mv (.t 64)), none⟩]) .ret))))))))
def r_glback : List ARes := [(.t 4)]
theorem s_glback : slimF Tryd.prog Tryd.f3 = some (c_glback, r_glback) := by kernel_rfl
def c_glmore : ACode := (.seq (.reg none [⟨(some 4), (.mv (.c (.bool false))), none⟩]) (.seq (.reg (some [(0, false), (1, false), (2, false), (3, false), (4, false), (5, false), (6, false), (7, false), (8, false), (9, false), (10, false), (11, true)]) [⟨(some 11), (.mv (.t 0)), none⟩, ⟨(some 12), (.mv (.t 0)), none⟩, ⟨(some 13), (.len none false (.t 12)), none⟩, ⟨(some 14), (.mm false (.t 13) (.c (.int .i64 2000))), none⟩, ⟨(some 15), (.sl 1 (.t 11) none (some (.t 14))), none⟩, ⟨(some 16), (.mv (.t 1)), none⟩, ⟨(some 17), (.mv (.t 1)), none⟩, ⟨(some 18), (.len none false (.t 17)), none⟩, ⟨(some 19), (.mm false (.t 18) (.c (.int .i64 200))), none⟩, ⟨(some 20), (.sl 1 (.t 16) none (some (.t 19))), none⟩, ⟨(some 0), (.mv (.t 15)), none⟩, ⟨(some 1), (.mv (.t 20)), none⟩]) (.seq (.reg none [⟨(some 22), (.mv (.t 0)), none⟩, ⟨(some 23), (.call 8 [(.t 22)]), none⟩, ⟨(some 21), (.mv (.t 23)), none⟩, ⟨(some 24), (.ext (.t 21) 0), none⟩, ⟨(some 25), (.ext (.t 21) 1), none⟩, ⟨(some 5), (.new 31 [(20, (.blob (List.replicate 20 (.int .u8 0)))), (1, (.str [])), (1, (.int .i64 0)), (1, (.int .i64 0)), (1, (.con (.slice none 0 0))), (1, (.con (.slice none 0 0))), (1, (.str []))]), none⟩, ⟨none, (.st (.st 26) (.t 5) (.t 24)), none⟩, ⟨(some 6), (.mv (.t 25)), none⟩]) (.seq (.reg none [⟨(some 27), (.buildSl 5 1 []), none⟩, ⟨(some 28), (.mv (.t 0)), none⟩, ⟨(some 29), (.app 5 1 1 (.t 27) (.t 28)), none⟩, ⟨(some 30), (.mv (.t 1)), none⟩, ⟨(some 31), (.app 5 1 1 (.t 29) (.t 30)), none⟩, ⟨(some 32), (.call 8 [(.t 31)]), none⟩, ⟨(some 26), (.mv (.t 32)), none⟩, ⟨(some 33), (.ext (.t 26) 0), none⟩, ⟨(some 34), (.ext (.t 26) 1), none⟩, ⟨(some 7), (.new 31 [(20, (.blob (List.replicate 20 (.int .u8 0)))), (1, (.str [])), (1, (.int .i64 0)), (1, (.int .i64 0)), (1, (.con (.slice none 0 0))), (1, (.con (.slice none 0 0))), (1, (.str []))]), none⟩, ⟨none, (.st (.st 26) (.t 7) (.t 33)), none⟩, ⟨(some 8), (.mv (.t 34)), none⟩]) (.seq (.reg none [⟨(some 36), (.mv (.t 0)), none⟩, ⟨(some 37), (.mv (.t 0)), none⟩, ⟨(some 38), (.len none false (.t 37)), none⟩, ⟨(some 39), (.mm false (.t 38) (.c (.int .i64 40))), none⟩, ⟨(some 40), (.sl 1 (.t 36) none (some (.t 39))), none⟩, ⟨(some 41), (.call 8 [(.t 40)]), none⟩, ⟨(some 35), (.mv (.t 41)), none⟩, ⟨(some 42), (.ext (.t 35) 0), none⟩, ⟨(some 43), (.ext (.t 35) 1), none⟩, ⟨(some 9), (.new 31 [(20, (.blob (List.replicate 20 (.int .u8 0)))), (1, (.str [])), (1, (.int .i64 0)), (1, (.int .i64 0)), (1, (.con (.slice none 0 0))), (1, (.con (.slice none 0 0))), (1, (.str []))]), none⟩, ⟨none, (.st (.st 26) (.t 9) (.t 42)), none⟩, ⟨(some 10), (.mv (.t 43)), none⟩]) (.seq (.seq (.reg none [⟨(some 44), (.mv (.t 6)), none⟩, ⟨(some 45), (.bin .neq (.t 44) (.c (.int .i64 0))), none⟩]) (.cond (.t 45) (.seq (.reg none [⟨(some 46), (.call 11 []), none⟩, ⟨(some 4), (.mv (.t 46)), none⟩]) .ret) .skip)) (.seq (.reg none [⟨(some 47), (.fa 25 (.t 5)), none⟩, ⟨(some 48), (.ld (.one (.str [])) (.t 47)), none⟩, ⟨(some 49), (.mv (.t 1)), none⟩, ⟨(some 50), (.toStr (.t 49)), none⟩, ⟨(some 51), (.bin .add (.t 48) (.t 50)), none⟩, ⟨(some 52), (.fa 25 (.t 5)), none⟩, ⟨none, (.st (.one (.str [])) (.t 52) (.t 51)), none⟩]) (.seq (.reg (some [(0, true), (1, true), (2, true), (3, true), (4, true), (5, true), (6, false), (7, false), (7, false), (9, true), (10, true), (11, true), (12, true), (13, true), (14, true), (15, true), (16, true)]) [⟨(some 53), (.call 11 []), none⟩, ⟨(some 54), (.mv (.t 53)), none⟩, ⟨(some 55), (.mv (.t 8)), (some (54, true))⟩, ⟨(some 56), (.bin .eql (.t 55) (.c (.int .i64 0))), (some (54, true))⟩, ⟨(some 57), (.pick (.t 54) (.t 56) (.c (.bool false))), none⟩, ⟨(some 58), (.mv (.t 57)), none⟩, ⟨(some 59), (.ld (.st 26) (.t 5)), (some (58, true))⟩, ⟨(some 60), (.call 10 [(.t 59)]), (some (58, true))⟩, ⟨(some 61), (.ld (.st 26) (.t 7)), (some (58, true))⟩, ⟨(some 62), (.call 10 [(.t 61)]), (some (58, true))⟩, ⟨(some 63), (.call 9 [(.t 60), (.t 62)]), (some (58, true))⟩, ⟨(some 64), (.pick (.t 58) (.t 63) (.c (.bool false))), none⟩, ⟨(some 65), (.mv (.t 64)), none⟩, ⟨(some 66), (.mv (.t 10)), (some (65, true))⟩, ⟨(some 67), (.bin .eql (.t 66) (.c (.int .i64 4))), (some (65, true))⟩, ⟨(some 68), (.pick (.t 65) (.t 67) (.c (.bool false))), none⟩, ⟨(some 4), (.mv (.t 68)), none⟩]) .ret))))))))
def r_glmore : List ARes := [(.t 4)]
theorem s_glmore : slimF Tryd.prog Tryd.f4 = some (c_glmore, r_glmore) := by kernel_rfl
def b_glvalues_0 : ACode := (.seq (.seq (.reg none [⟨(some 43), (.mv (.t 10)), none⟩, ⟨(some 44), (.bin .geq (.t 43) (.c (.int .i64 0))), none⟩]) (.cond (.t 44) .skip (.exit 2))) (.seq (.block 3 (.seq (.reg none [⟨(some 47), (.fa 23 (.t 5)), none⟩, ⟨(some 48), (.ld (.one (.con (.slice none 0 0))) (.t 47)), none⟩, ⟨(some 49), (.mv (.t 10)), none⟩, ⟨(some 50), (.ia 2 (.agg [(1, (.str [])), (1, (.str []))]) (.t 48) (.t 49)), none⟩, ⟨(some 51), (.fa 0 (.t 50)), none⟩, ⟨(some 52), (.ld (.one (.str [])) (.t 51)), none⟩, ⟨(some 53), (.mv (.t 7)), none⟩, ⟨(some 54), (.bin .eql (.t 52) (.t 53)), none⟩]) (.cond (.t 54) (.reg none [⟨(some 55), (.fa 23 (.t 5)), none⟩, ⟨(some 56), (.ld (.one (.con (.slice none 0 0))) (.t 55)), none⟩, ⟨(some 57), (.mv (.t 10)), none⟩, ⟨(some 58), (.ia 2 (.agg [(1, (.str [])), (1, (.str []))]) (.t 56) (.t 57)), none⟩, ⟨(some 59), (.fa 1 (.t 58)), none⟩, ⟨(some 60), (.ld (.one (.str [])) (.t 59)), none⟩, ⟨(some 8), (.mv (.t 60)), none⟩, ⟨(some 9), (.mv (.c (.bool true))), none⟩]) .skip))) (.reg none [⟨(some 45), (.mv (.t 10)), none⟩, ⟨(some 46), (.bin .sub (.t 45) (.c (.int .i64 1))), none⟩, ⟨(some 10), (.mv (.t 46)), none⟩])))
def t_glvalues_0 : ACode := (.seq (.reg none [⟨(some 62), (.ld (.st 26) (.t 5)), none⟩, ⟨(some 63), (.mv (.t 7)), none⟩, ⟨(some 64), (.call 12 [(.t 62), (.t 63)]), none⟩, ⟨(some 61), (.mv (.t 64)), none⟩, ⟨(some 65), (.ext (.t 61) 0), none⟩, ⟨(some 66), (.ext (.t 61) 1), none⟩, ⟨(some 11), (.mv (.t 65)), none⟩, ⟨(some 12), (.mv (.t 66)), none⟩]) (.seq (.reg none [⟨(some 67), (.mv (.t 11)), none⟩, ⟨(some 68), (.mv (.t 8)), none⟩, ⟨(some 69), (.bin .neq (.t 67) (.t 68)), none⟩, ⟨(some 70), (.mv (.t 69)), none⟩, ⟨(some 71), (.mv (.t 12)), (some (70, false))⟩, ⟨(some 72), (.mv (.t 9)), (some (70, false))⟩, ⟨(some 73), (.eqB true (.t 71) (.t 72)), (some (70, false))⟩, ⟨(some 74), (.pick (.t 70) (.c (.bool true)) (.t 73)), none⟩]) (.cond (.t 74) (.seq (.reg none [⟨(some 4), (.mv (.c (.bool false))), none⟩]) .ret) .skip)))
def t_glvalues_1 : ACode := (.reg none [⟨(some 25), (.mv (.t 6)), none⟩, ⟨(some 26), (.bin .add (.t 25) (.c (.int .i64 1))), none⟩, ⟨(some 6), (.mv (.t 26)), none⟩])
def b_glvalues_1 : ACode := (.seq (.seq (.reg none [⟨(some 20), (.mv (.t 6)), none⟩, ⟨(some 21), (.fa 23 (.t 5)), none⟩, ⟨(some 22), (.ld (.one (.con (.slice none 0 0))) (.t 21)), none⟩, ⟨(some 23), (.len none false (.t 22)), none⟩, ⟨(some 24), (.bin .leq (.t 20) (.t 23)), none⟩]) (.cond (.t 24) .skip (.exit 0))) (.seq (.block 1 (.seq (.reg none [⟨(some 27), (.mv (.t 1)), none⟩, ⟨(some 7), (.mv (.t 27)), none⟩]) (.seq (.seq (.reg none [⟨(some 28), (.mv (.t 6)), none⟩, ⟨(some 29), (.fa 23 (.t 5)), none⟩, ⟨(some 30), (.ld (.one (.con (.slice none 0 0))) (.t 29)), none⟩, ⟨(some 31), (.len none false (.t 30)), none⟩, ⟨(some 32), (.bin .lss (.t 28) (.t 31)), none⟩]) (.cond (.t 32) (.reg none [⟨(some 33), (.fa 23 (.t 5)), none⟩, ⟨(some 34), (.ld (.one (.con (.slice none 0 0))) (.t 33)), none⟩, ⟨(some 35), (.mv (.t 6)), none⟩, ⟨(some 36), (.ia 2 (.agg [(1, (.str [])), (1, (.str []))]) (.t 34) (.t 35)), none⟩, ⟨(some 37), (.fa 0 (.t 36)), none⟩, ⟨(some 38), (.ld (.one (.str [])) (.t 37)), none⟩, ⟨(some 7), (.mv (.t 38)), none⟩]) .skip)) (.seq (.reg none [⟨(some 8), (.mv (.c (.str []))), none⟩, ⟨(some 9), (.mv (.c (.bool false))), none⟩]) (.seq (.seq (.reg none [⟨(some 39), (.fa 23 (.t 5)), none⟩, ⟨(some 40), (.ld (.one (.con (.slice none 0 0))) (.t 39)), none⟩, ⟨(some 41), (.len none false (.t 40)), none⟩, ⟨(some 42), (.bin .sub (.t 41) (.c (.int .i64 1))), none⟩, ⟨(some 10), (.mv (.t 42)), none⟩]) (.block 2 (.loop b_glvalues_0))) t_glvalues_0))))) t_glvalues_1))
def t_glvalues_2 : ACode := (.seq (.reg none [⟨(some 75), (.call 11 []), none⟩, ⟨(some 4), (.mv (.t 75)), none⟩]) .ret)
def c_glvalues : ACode := (.seq (.reg none [⟨(some 2), (.box 26 26 (.t 0)), none⟩, ⟨(some 4), (.mv (.c (.bool false))), none⟩]) (.seq (.reg none [⟨(some 13), (.ld (.st 26) (.t 2)), none⟩, ⟨(some 14), (.call 6 [(.t 13)]), none⟩, ⟨(some 5), (.new 31 [(20, (.blob (List.replicate 20 (.int .u8 0)))), (1, (.str [])), (1, (.int .i64 0)), (1, (.int .i64 0)), (1, (.con (.slice none 0 0))), (1, (.con (.slice none 0 0))), (1, (.str []))]), none⟩, ⟨none, (.st (.st 26) (.t 5) (.t 14)), none⟩]) (.seq (.reg none [⟨(some 15), (.mv (.t 1)), none⟩, ⟨(some 16), (.mv (.t 1)), none⟩, ⟨(some 17), (.len none true (.t 16)), none⟩, ⟨(some 18), (.mm false (.t 17) (.c (.int .i64 150))), none⟩, ⟨(some 19), (.slS (.t 15) none (some (.t 18))), none⟩, ⟨(some 1), (.mv (.t 19)), none⟩]) (.seq (.seq (.reg none [⟨(some 6), (.mv (.c (.int .i64 0))), none⟩]) (.block 0 (.loop b_glvalues_1))) t_glvalues_2))))
def r_glvalues : List ARes := [(.t 4)]
theorem s_glvalues : slimF Tryd.prog Tryd.f5 = some (c_glvalues, r_glvalues) := by kernel_rfl
end Go.Proofs.YtfabdnpeohpgnaaDoor
namespace Go.Proofs.YtfabdnpeohpgnaaDoor
set_option linter.all false
open Go.RowKit
open Go.Lib (index hasPrefix cut indexAny itoa)
def exCut (x : ExL) : ExL := (x.1.take 150, x.2.take 200)
def toH (c : ChgL) : ChgL := ⟨c.man, c.user.take 200, c.time, c.zone, (c.extras.take 20).map exCut, (c.files.take 20).map (List.take 300), c.desc.take 500⟩
def cOwn (m u : List UInt8) (t z : Int) (E F : AV) (d : List UInt8) : List (Nat × AV) := [(20, .blob (m.map U)), (1, .str u), (1, .int .i64 t), (1, .int .i64 z), (1, E), (1, F), (1, .str d)]
def zOwn : List (Nat × AV) := [(20, .blob (List.replicate 20 (.int .u8 0))), (1, .str []), (1, .int .i64 0), (1, .int .i64 0), (1, .con (.slice none 0 0)), (1, .con (.slice none 0 0)), (1, .str [])]
def argG (m : List Value) (ke : Nat) (es : List AV) (kf : Nat) (fs : List AV) : Prop := m = (unV m).map U ∧ es = (es.map unEx).map exV ∧ fs = (fs.map unS).map AV.str ∧ (ke = 2 ∨ es = []) ∧ kf = 1
def maxH (c : ChgL) : Prop := c.man.length = 20 ∧ c.user.length ≤ 9223372036854775807 ∧ c.extras.length ≤ 9223372036854775807 ∧ (∀ x ∈ c.extras, x.1.length ≤ 9223372036854775807 ∧ x.2.length ≤ 9223372036854775807) ∧
  c.files.length ≤ 9223372036854775807 ∧ (∀ f ∈ c.files, f.length ≤ 9223372036854775807) ∧ c.desc.length ≤ 9223372036854775807
def lgtoS : Spec := fun xs hp => match xs, hp with
  | [.agg [(20, .blob m), (1, .str u), (1, .int .i64 t), (1, .int .i64 z), (1, .sl ke es), (1, .sl kf fs), (1, .str d)]], [] =>
    some ⟨.agg (cOwn (toH ⟨unV m, u, t, z, es.map unEx, fs.map unS, d⟩).man (toH ⟨unV m, u, t, z, es.map unEx, fs.map unS, d⟩).user (toH ⟨unV m, u, t, z, es.map unEx, fs.map unS, d⟩).time (toH ⟨unV m, u, t, z, es.map unEx, fs.map unS, d⟩).zone
        (.own 0 (toH ⟨unV m, u, t, z, es.map unEx, fs.map unS, d⟩).extras.length) (.own 1 (toH ⟨unV m, u, t, z, es.map unEx, fs.map unS, d⟩).files.length) (toH ⟨unV m, u, t, z, es.map unEx, fs.map unS, d⟩).desc),
      [.row 44 2 (toH ⟨unV m, u, t, z, es.map unEx, fs.map unS, d⟩).extras.length ((toH ⟨unV m, u, t, z, es.map unEx, fs.map unS, d⟩).extras.map exV),
       .row 9 1 (toH ⟨unV m, u, t, z, es.map unEx, fs.map unS, d⟩).files.length ((toH ⟨unV m, u, t, z, es.map unEx, fs.map unS, d⟩).files.map AV.str)],
      argG m ke es kf fs ∧ maxH ⟨unV m, u, t, z, es.map unEx, fs.map unS, d⟩⟩
  | _, _ => none
theorem tk_min {α : Type} (l : List α) (k : Nat) : l.take (min (l.length : Int) (k : Int)).toNat = l.take k := by
  rcases Nat.le_total l.length k with h | h
  · rw [List.take_of_length_le (by omega), List.take_of_length_le h]
  · rw [show (min (l.length : Int) (k : Int)).toNat = k by omega]
theorem mapT_succ {α β : Type} (f : α → β) (l : List α) {i : Nat} (h : i < l.length) : (l.take i).map f ++ [f l[i]] = (l.take (i + 1)).map f := by
  rw [List.take_add_one, List.getElem?_eq_getElem h, Option.toList_some, List.map_append, List.map_cons, List.map_nil]
set_option maxHeartbeats 4000000 in
theorem lgto_ok : FnOk Tryd.prog 6 lgtoS := by
  refine fn_slim2 Tryd.func6 s_glto (Φ := phiL []) phi_nil ?_
  intro xs hp r hs hp'
  unfold lgtoS at hs
  split at hs
  · injection hs with hs; subst hs
    rename_i m u t z ke es kf fs d
    obtain ⟨⟨q1, q2, q3, q4, q5⟩, l1, l2, l3, l4, l5, l6, l7⟩ := hp'
    generalize unV m = m at *
    subst q1
    generalize es.map unEx = es at *
    subst q2
    generalize fs.map unS = fs at *
    subst q3 q5
    simp only at l1 l2 l3 l4 l5 l6 l7
    refine ⟨len_le (by kernel_rfl), ?_⟩
    have tu := tk_min u 200
    have tu : u.take (min (u.length : Int) 200).toNat = u.take 200 := tu
    have td := tk_min d 500
    have td : d.take (min (d.length : Int) 500).toNat = d.take 500 := td
    simp only [c_glto, tu, td, List.length_map, go_sem, Nat.reduceDiv, Nat.reduceMod, ↓reduceIte, Nat.reduceEqDiff, Nat.reduceBEq, Nat.reduceSub, Nat.reduceLT, Nat.reduceAdd, Nat.reduceLeDiff, reduceCtorEq, Int.reduceEq, Int.reduceNe, Int.reduceLT, Int.reduceLE, Int.reduceToNat]
    (repeat' apply And.intro)
    all_goals first | omega | exact l1 | skip
    simp only [toH]
    generalize u.take 200 = u' at *
    generalize d.take 500 = d' at *
    refine loop2P [(4228, 44, 2), (4229, 9, 1)] [1, 2, 3, 4] [0, 1, 2, 3, 4] (fun i : Nat => ⟨[(1, .ref 0 0 0), (2, .ref 1 0 0), (3, .ref 2 0 0), (4, .int .i64 (i : Int))],
      [.cells 26 [(20, .blob (m.map U)), (1, .str u), (1, .int .i64 t), (1, .int .i64 z), (1, .sl ke (es.map exV)), (1, .sl 1 (fs.map AV.str)), (1, .str d)], .cells 31 zOwn, .cells 31 (cOwn m u' t z (.own 3 i) (.own 4 0) d'), .row 44 2 i (((es.take i).map exCut).map exV), .row 9 1 0 []]⟩)
      (fun i => i ≤ es.length ∧ i ≤ 20) (fun i => 20 - i) 0 (by rfl) ⟨Nat.zero_le _, Nat.zero_le _⟩ ⟨rfl, by rfl⟩ (fun i hi R hR => ?_)
    obtain ⟨i1, i2⟩ := hi
    by_cases hil : i < es.length ∧ i < 20
    · obtain ⟨hil, hi20⟩ := hil
      have c1 : decide ((i : Int) < (es.length : Int)) = true := decide_eq_true (by omega)
      have c2 : decide ((i : Int) < 20) = true := decide_eq_true (by omega)
      have hk : ke = 2 := q4.resolve_right (by intro h; have := congrArg List.length h; simp at this; rw [this] at hil; simp at hil)
      subst hk
      have hget := getD_map exV es ([], []) (.agg [(1, (.str [])), (1, (.str []))]) hil
      have hga : es.getD i ([], []) = es[i] := by simp [List.getD_eq_getElem?_getD, List.getElem?_eq_getElem hil]
      obtain ⟨x1, x2⟩ := l4 es[i] (List.getElem_mem _)
      have t1 := tk_min es[i].1 150
      have t1 : es[i].1.take (min (es[i].1.length : Int) 150).toNat = es[i].1.take 150 := t1
      have t2 := tk_min es[i].2 200
      have t2 : es[i].2.take (min (es[i].2.length : Int) 200).toNat = es[i].2.take 200 := t2
      have hlen : (((es.take i).map exCut).map exV ++ [AV.agg [(1, AV.str (es[i].1.take 150)), (1, AV.str (es[i].2.take 200))]]).length = i + 1 := by simp; omega
      have hsn : ((es.take i).map exCut).map exV ++ [AV.agg [(1, AV.str (es[i].1.take 150)), (1, AV.str (es[i].2.take 200))]] = ((es.take (i + 1)).map exCut).map exV := by
        rw [← mapT_succ exCut es hil, List.map_append]; rfl
      simp only [b_glto_0, cOwn, zOwn, c1, c2, hget, hga, exV, t1, t2, Int.toNat_natCast, List.length_map, go_sem, Nat.reduceDiv, Nat.reduceMod, ↓reduceIte, Nat.reduceEqDiff, Nat.reduceBEq, Nat.reduceSub, Nat.reduceLT, Nat.reduceAdd, Nat.reduceLeDiff, reduceCtorEq, Int.reduceEq, Int.reduceNe, Int.reduceLT, Int.reduceLE, Int.reduceToNat]
      (repeat' apply And.intro)
      all_goals first | omega | (rw [hlen]; (first | omega | (simp only [lenOk, bytesOk, inI, IntKind.bits, List.length_append, Bs_len, List.length_cons, List.length_nil, List.length_map, List.length_take, List.length_drop, List.length_replicate]; omega))) | skip
      refine hR _ (i + 1) ⟨by omega, by omega⟩ (by omega) ?_
      rw [hsn]; rfl
    · have e : es.take i = es.take 20 := by
        rcases Nat.lt_or_ge i es.length with h | h
        · rw [show i = 20 by omega]
        · rw [List.take_of_length_le h, List.take_of_length_le (by omega)]
      have el : ((es.take 20).map exCut).length = i := by rw [List.length_map, List.length_take]; omega
      have hcc : decide ((i : Int) < (es.length : Int)) = false ∨ (decide ((i : Int) < (es.length : Int)) = true ∧ decide ((i : Int) < 20) = false) := by
        rcases Nat.lt_or_ge i es.length with h | h
        · exact .inr ⟨decide_eq_true (by omega), decide_eq_false (by omega)⟩
        · exact .inl (decide_eq_false (by omega))
      rw [el, e]
      have hel : ((fs.take 20).map (List.take 300)).length = min fs.length 20 := by rw [List.length_map, List.length_take]; omega
      rw [hel]
      rcases hcc with c1 | ⟨c1, c2⟩
      all_goals (
        first
          | simp only [b_glto_0, t_glto_1, cOwn, zOwn, c1, c2, List.length_map, go_sem, Nat.reduceDiv, Nat.reduceMod, ↓reduceIte, Nat.reduceEqDiff, Nat.reduceBEq, Nat.reduceSub, Nat.reduceLT, Nat.reduceAdd, Nat.reduceLeDiff, reduceCtorEq, Int.reduceEq, Int.reduceNe, Int.reduceLT, Int.reduceLE, Int.reduceToNat]
          | simp only [b_glto_0, t_glto_1, cOwn, zOwn, c1, List.length_map, go_sem, Nat.reduceDiv, Nat.reduceMod, ↓reduceIte, Nat.reduceEqDiff, Nat.reduceBEq, Nat.reduceSub, Nat.reduceLT, Nat.reduceAdd, Nat.reduceLeDiff, reduceCtorEq, Int.reduceEq, Int.reduceNe, Int.reduceLT, Int.reduceLE, Int.reduceToNat]
        refine loop2P [] [1, 2, 3, 6] [0, 1, 2, 3, 4] (fun j : Nat => ⟨[(1, .ref 0 0 0), (2, .ref 1 0 0), (3, .ref 2 0 0), (6, .int .i64 (j : Int))],
          [.cells 26 [(20, .blob (m.map U)), (1, .str u), (1, .int .i64 t), (1, .int .i64 z), (1, .sl ke (es.map exV)), (1, .sl 1 (fs.map AV.str)), (1, .str d)], .cells 31 zOwn, .cells 31 (cOwn m u' t z (.own 3 i) (.own 4 j) d'), .row 44 2 i (((es.take 20).map exCut).map exV), .row 9 1 j (((fs.take j).map (List.take 300)).map AV.str)]⟩)
          (fun j => j ≤ fs.length ∧ j ≤ 20) (fun j => 20 - j) 0 (by rfl) ⟨Nat.zero_le _, Nat.zero_le _⟩ ⟨rfl, by rfl⟩ (fun j hj R2 hR2 => ?_)
        obtain ⟨j1, j2⟩ := hj
        by_cases hjl : j < fs.length ∧ j < 20
        · obtain ⟨hjl, hj20⟩ := hjl
          have d1 : decide ((j : Int) < (fs.length : Int)) = true := decide_eq_true (by omega)
          have d2 : decide ((j : Int) < 20) = true := decide_eq_true (by omega)
          have hget := getD_map AV.str fs [] (.str []) hjl
          have hga : fs.getD j [] = fs[j] := by simp [List.getD_eq_getElem?_getD, List.getElem?_eq_getElem hjl]
          have x1 := l6 fs[j] (List.getElem_mem _)
          have t1 := tk_min fs[j] 300
          have t1 : fs[j].take (min (fs[j].length : Int) 300).toNat = fs[j].take 300 := t1
          have hlen : (((fs.take j).map (List.take 300)).map AV.str ++ [AV.str (fs[j].take 300)]).length = j + 1 := by simp; omega
          have hsn : ((fs.take j).map (List.take 300)).map AV.str ++ [AV.str (fs[j].take 300)] = ((fs.take (j + 1)).map (List.take 300)).map AV.str := by
            rw [← mapT_succ (List.take 300) fs hjl, List.map_append]; rfl
          simp only [b_glto_1, cOwn, zOwn, d1, d2, hget, hga, t1, Int.toNat_natCast, List.length_map, go_sem, Nat.reduceDiv, Nat.reduceMod, ↓reduceIte, Nat.reduceEqDiff, Nat.reduceBEq, Nat.reduceSub, Nat.reduceLT, Nat.reduceAdd, Nat.reduceLeDiff, reduceCtorEq, Int.reduceEq, Int.reduceNe, Int.reduceLT, Int.reduceLE, Int.reduceToNat]
          (repeat' apply And.intro)
          all_goals first | omega | (rw [hlen]; (first | omega | (simp only [lenOk, bytesOk, inI, IntKind.bits, List.length_append, Bs_len, List.length_cons, List.length_nil, List.length_map, List.length_take, List.length_drop, List.length_replicate]; omega))) | skip
          refine hR2 _ (j + 1) ⟨by omega, by omega⟩ (by omega) ?_
          rw [hsn]; rfl
        · have e2 : fs.take j = fs.take 20 := by
            rcases Nat.lt_or_ge j fs.length with h | h
            · rw [show j = 20 by omega]
            · rw [List.take_of_length_le h, List.take_of_length_le (by omega)]
          have ej : min fs.length 20 = j := by omega
          have hdd : decide ((j : Int) < (fs.length : Int)) = false ∨ (decide ((j : Int) < (fs.length : Int)) = true ∧ decide ((j : Int) < 20) = false) := by
            rcases Nat.lt_or_ge j fs.length with h | h
            · exact .inr ⟨decide_eq_true (by omega), decide_eq_false (by omega)⟩
            · exact .inl (decide_eq_false (by omega))
          rw [ej, e2]
          rcases hdd with d1 | ⟨d1, d2⟩
          · simp only [b_glto_1, t_glto_0, r_glto, cOwn, zOwn, d1, List.length_map, go_sem, Nat.reduceDiv, Nat.reduceMod, ↓reduceIte, Nat.reduceEqDiff, Nat.reduceBEq, Nat.reduceSub, Nat.reduceLT, Nat.reduceAdd, Nat.reduceLeDiff, reduceCtorEq, Int.reduceEq, Int.reduceNe, Int.reduceLT, Int.reduceLE, Int.reduceToNat]
          · simp only [b_glto_1, t_glto_0, r_glto, cOwn, zOwn, d1, d2, List.length_map, go_sem, Nat.reduceDiv, Nat.reduceMod, ↓reduceIte, Nat.reduceEqDiff, Nat.reduceBEq, Nat.reduceSub, Nat.reduceLT, Nat.reduceAdd, Nat.reduceLeDiff, reduceCtorEq, Int.reduceEq, Int.reduceNe, Int.reduceLT, Int.reduceLE, Int.reduceToNat])
  · cases hs
def lgofS : Spec := fun xs hp => match xs, hp with
  | [.agg [(20, .blob m), (1, .str u), (1, .int .i64 t), (1, .int .i64 z), (1, .sl ke es), (1, .sl kf fs), (1, .str d)]], [] =>
    some ⟨.agg (cOwn (unV m) u t z (.own 0 (es.map unEx).length) (.own 1 1) d), [.row 48 2 (es.map unEx).length ((es.map unEx).map exV), .row 9 1 1 ((fs.map unS).map AV.str)],
      argG m ke es kf fs ∧ (unV m).length = 20 ∧ es.length ≤ 1000000 ∧ fs.length ≤ 1000000⟩
  | _, _ => none
set_option maxHeartbeats 4000000 in
theorem lgof_ok : FnOk Tryd.prog 10 lgofS := by
  refine fn_slim2 Tryd.func10 s_glof (Φ := phiL []) phi_nil ?_
  intro xs hp r hs hp'
  unfold lgofS at hs
  split at hs
  · injection hs with hs; subst hs
    rename_i m u t z ke es kf fs d
    obtain ⟨⟨q1, q2, q3, q4, q5⟩, l1, l2, l3⟩ := hp'
    generalize unV m = m at *
    subst q1
    generalize es.map unEx = es at *
    subst q2
    generalize fs.map unS = fs at *
    subst q3 q5
    rw [List.length_map] at l2 l3
    refine ⟨len_le (by kernel_rfl), ?_⟩
    simp only [c_glof, go_sem, Nat.reduceDiv, Nat.reduceMod, ↓reduceIte, Nat.reduceEqDiff, Nat.reduceBEq, Nat.reduceSub, Nat.reduceLT, Nat.reduceAdd, Nat.reduceLeDiff, reduceCtorEq, Int.reduceEq, Int.reduceNe, Int.reduceLT, Int.reduceLE, Int.reduceToNat]
    refine ⟨l1, ?_⟩
    refine loop2P [(4228, 48, 2), (4229, 9, 1)] [1, 2, 3, 4] [0, 1, 2, 3, 4] (fun i : Nat => ⟨[(1, .ref 0 0 0), (2, .ref 1 0 0), (3, .ref 2 0 0), (4, .int .i64 (i : Int))],
      [.cells 31 [(20, .blob (m.map U)), (1, .str u), (1, .int .i64 t), (1, .int .i64 z), (1, .sl ke (es.map exV)), (1, .sl 1 (fs.map AV.str)), (1, .str d)], .cells 26 zOwn, .cells 26 (cOwn m u t z (.own 3 i) (.own 4 0) d), .row 48 2 i ((es.take i).map exV), .row 9 1 0 []]⟩)
      (fun i => i ≤ es.length) (fun i => es.length - i) 0 (by rfl) (Nat.zero_le _) ⟨rfl, by rfl⟩ (fun i hi R hR => ?_)
    by_cases hil : i < es.length
    · have c1 : decide ((i : Int) < (es.length : Int)) = true := decide_eq_true (by omega)
      have hk : ke = 2 := q4.resolve_right (by intro h; have := congrArg List.length h; simp at this; rw [this] at hil; simp at hil)
      subst hk
      have hget := getD_map exV es ([], []) (.agg [(1, (.str [])), (1, (.str []))]) hil
      have hga : es.getD i ([], []) = es[i] := by simp [List.getD_eq_getElem?_getD, List.getElem?_eq_getElem hil]
      have hlen : ((es.take i).map exV ++ [AV.agg [(1, AV.str es[i].1), (1, AV.str es[i].2)]]).length = i + 1 := by simp; omega
      have hsn : (es.take i).map exV ++ [AV.agg [(1, AV.str es[i].1), (1, AV.str es[i].2)]] = (es.take (i + 1)).map exV := mapT_succ exV es hil
      simp only [b_glof_0, cOwn, zOwn, c1, hget, hga, exV, Int.toNat_natCast, List.length_map, go_sem, Nat.reduceDiv, Nat.reduceMod, ↓reduceIte, Nat.reduceEqDiff, Nat.reduceBEq, Nat.reduceSub, Nat.reduceLT, Nat.reduceAdd, Nat.reduceLeDiff, reduceCtorEq, Int.reduceEq, Int.reduceNe, Int.reduceLT, Int.reduceLE, Int.reduceToNat]
      (repeat' apply And.intro)
      all_goals first | omega | (rw [hlen]; (first | omega | (simp only [lenOk, bytesOk, inI, IntKind.bits, List.length_append, Bs_len, List.length_cons, List.length_nil, List.length_map, List.length_take, List.length_drop, List.length_replicate]; omega))) | skip
      refine hR _ (i + 1) hil (by omega) ?_
      rw [hsn]; rfl
    · have c1 : decide ((i : Int) < (es.length : Int)) = false := decide_eq_false (by omega)
      obtain rfl : i = es.length := by omega
      rw [List.take_length]
      simp only [b_glof_0, t_glof_0, r_glof, cOwn, zOwn, c1, List.length_map, go_sem, Nat.reduceDiv, Nat.reduceMod, ↓reduceIte, Nat.reduceEqDiff, Nat.reduceBEq, Nat.reduceSub, Nat.reduceLT, Nat.reduceAdd, Nat.reduceLeDiff, reduceCtorEq, Int.reduceEq, Int.reduceNe, Int.reduceLT, Int.reduceLE, Int.reduceToNat]
      (repeat' apply And.intro)
      all_goals first | omega | (first | omega | (simp only [lenOk, bytesOk, inI, IntKind.bits, List.length_append, Bs_len, List.length_cons, List.length_nil, List.length_map, List.length_take, List.length_drop, List.length_replicate]; omega)) | rfl | skip
  · cases hs
end Go.Proofs.YtfabdnpeohpgnaaDoor
