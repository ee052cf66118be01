import Derived.Test.YtfabdnpeohpgnaaDoorQFLChg2
import Derived.Test.YtfabdnpeohpgnaaDoorTie
import Derived.Lay
import Derived.Stop.Joined
import Derived.Test.YtfabdnpeohpgnaaDoorCards
import Derived.Test.YtfabdnpeohpgnaaDoorQAMS
import Derived.SevenTiedAt
import Derived.ChangeMaps5
import Derived.ProofKit
import Derived.OpenShut
import Derived.ChangeOld
import Derived.Below
import Derived.Carry
namespace Go.Proofs.YtfabdnpeohpgnaaDoor
set_option linter.all false
open Go.RowKit
open Go.Lib (itoa)
noncomputable def lgvalS : Spec := fun xs hp => match xs, hp with
  | [.agg [(20, .blob m), (1, .str u), (1, .int .i64 t), (1, .int .i64 z), (1, .sl ke es), (1, .sl kf fs), (1, .str d)], .str k], [] =>
    some ⟨.bool true, [], argG m ke es kf fs ∧ chgB9 ⟨unV m, u, t, z, es.map unEx, fs.map unS, d⟩ ∧ k.length ≤ 9223372036854775807⟩
  | _, _ => none
noncomputable def phiGV : Phi := phiL [(6, [], lgtoS), (12, [], gvalS), (11, [], gknownS)]
theorem phiGV_ok : PhiOk Tryd.prog phiGV := phi_cons lgto_ok (by kernel_rfl) (phi_cons gval_ok (by kernel_rfl) (phi_cons gknown_ok (by kernel_rfl) phi_nil))
theorem phiGV_1 : phiGV 6 = some ([], lgtoS) := rfl
theorem phiGV_2 : phiGV 12 = some ([], gvalS) := rfl
theorem phiGV_3 : phiGV 11 = some ([], gknownS) := rfl
set_option maxHeartbeats 8000000 in
set_option maxRecDepth 8000 in
theorem lgval_ok : FnOk Tryd.prog 5 lgvalS := by
  refine fn_slim2 Tryd.func5 s_glvalues phiGV_ok ?_
  intro xs hp r hs hp'
  unfold lgvalS at hs
  split at hs
  · injection hs with hs; subst hs
    rename_i m u t z ke es kf fs d k
    obtain ⟨q0, p1, p2⟩ := hp'
    refine ⟨len_le (by kernel_rfl), ?_⟩
    generalize hc : (⟨unV m, u, t, z, es.map unEx, fs.map unS, d⟩ : ChgL) = c at *
    have hmx := max_of p1
    obtain ⟨z1, -⟩ := toH_size c p1
    generalize hd : toH c = d at *
    obtain ⟨dm, du, dt, dz, de, df, dd⟩ := d
    obtain ⟨h1, h2, h3, h4, h5, h6, h7, h8, h9, h10, h11⟩ := z1
    simp only at h1 h2 h3 h4 h5 h6 h7 h8 h9 h10 h11
    have hmT := eq_true hmx
    have tk := tk_min k 150
    have tk : k.take (min (k.length : Int) 150).toNat = k.take 150 := tk
    simp only [c_glvalues, phiGV_1, lgtoS, hc, hd, hmT, argG, cOwn, zOwn, tk, go_sem, Nat.reduceDiv, Nat.reduceMod, ↓reduceIte, Nat.reduceEqDiff, Nat.reduceBEq, Nat.reduceSub, Nat.reduceLT, Nat.reduceAdd, Nat.reduceLeDiff, reduceCtorEq, Int.reduceEq, Int.reduceNe, Int.reduceLT, Int.reduceLE, Int.reduceToNat]
    generalize k.take 150 = k at *
    refine ⟨q0, ⟨by omega, by omega⟩, ?_⟩
    refine loop2P [] [1, 5, 6] [3, 1, 2] (fun i : Nat => ⟨[(1, .str k), (5, .ref 0 0 0), (6, .int .i64 (i : Int))], [.cells 31 [(20, .blob (dm.map U)), (1, .str du), (1, .int .i64 dt), (1, .int .i64 dz), (1, .own 1 de.length), (1, .own 2 df.length), (1, .str dd)], .row 44 2 de.length (de.map exV), .row 9 1 df.length (df.map AV.str)]⟩)
      (fun i => i ≤ de.length + 1) (fun i => de.length + 1 - i) 0 (by rfl) (Nat.zero_le _) ⟨rfl, by rfl⟩ (fun i hi R hR => ?_)
    by_cases hil : i < de.length
    · have c1 : decide ((i : Int) ≤ (de.length : Int)) = true := decide_eq_true (by omega)
      have c2 : decide ((i : Int) < (de.length : Int)) = true := decide_eq_true (by omega)
      have hget := getD_map exV de ([], []) (AV.agg [(1, AV.str []), (1, AV.str [])]) hil
      simp only [b_glvalues_1, c1, c2, hget, exV, Int.toNat_natCast, List.length_map, go_sem, Nat.reduceDiv, Nat.reduceMod, ↓reduceIte, Nat.reduceEqDiff, Nat.reduceBEq, Nat.reduceSub, Nat.reduceLT, Nat.reduceAdd, Nat.reduceLeDiff, reduceCtorEq, Int.reduceEq, Int.reduceNe, Int.reduceLT, Int.reduceLE, Int.reduceToNat]
      generalize (de.getD i ([], [])).1 = kk at *
      refine ⟨⟨by omega, by omega⟩, hil, ?_⟩
      refine ⟨by (first | omega | (simp only [lenOk, bytesOk, inI, IntKind.bits, List.length_append, Bs_len, List.length_cons, List.length_nil, List.length_map, List.length_take, List.length_drop, List.length_replicate]; omega)), ?_⟩
      refine loop2P (m := 0) [] [1, 5, 6, 7, 8, 9, 10] [0, 1, 2] (fun j : Nat => ⟨[(1, .str k), (5, .ref 0 0 0), (6, .int .i64 (i : Int)), (7, .str kk), (8, .str (valG (de.drop j) kk).1), (9, .bool (valG (de.drop j) kk).2), (10, .int .i64 ((j : Int) - 1))], [.cells 31 [(20, .blob (dm.map U)), (1, .str du), (1, .int .i64 dt), (1, .int .i64 dz), (1, .own 1 de.length), (1, .own 2 df.length), (1, .str dd)], .row 44 2 de.length (de.map exV), .row 9 1 df.length (df.map AV.str)]⟩)
        (fun j => j ≤ de.length) (fun j => j) de.length ?_ (Nat.le_refl _) ⟨rfl, by rfl⟩ (fun j hj R2 hR2 => ?_)
      · rw [List.drop_length]; rfl
      cases j with
      | zero =>
        have d1 : decide ((0 : Int) ≤ 0 - 1) = false := rfl
        simp only [b_glvalues_0, t_glvalues_0, t_glvalues_1, r_glvalues, d1, phiGV_2, gvalS, unEx_map, List.drop_zero, List.length_map, Bool.xor_self, go_sem, Nat.reduceDiv, Nat.reduceMod, ↓reduceIte, Nat.reduceEqDiff, Nat.reduceBEq, Nat.reduceSub, Nat.reduceLT, Nat.reduceAdd, Nat.reduceLeDiff, reduceCtorEq, Int.reduceEq, Int.reduceNe, Int.reduceLT, Int.reduceLE, Int.reduceToNat]
        exact ⟨⟨.inl trivial, by omega⟩, by (first | omega | (simp only [lenOk, bytesOk, inI, IntKind.bits, List.length_append, Bs_len, List.length_cons, List.length_nil, List.length_map, List.length_take, List.length_drop, List.length_replicate]; omega)), hR _ (i + 1) (by omega) (by omega) rfl⟩
      | succ j =>
        have hjl : j < de.length := hj
        have d1 : decide ((0 : Int) ≤ (j : Int)) = true := decide_eq_true (by omega)
        have e1 : (((j + 1 : Nat) : Int) - 1) = (j : Int) := by omega
        have hgetj := getD_map exV de ([], []) (AV.agg [(1, AV.str []), (1, AV.str [])]) hjl
        have hgaj : de.getD j ([], []) = de[j] := by simp [List.getD_eq_getElem?_getD, List.getElem?_eq_getElem hjl]
        have hst := valG_drop de kk hjl
        generalize de[j] = x at *
        by_cases hx : x.1 = kk
        · have dx : decide (x.1 = kk) = true := decide_eq_true hx
          rw [if_pos hx] at hst
          simp only [b_glvalues_0, d1, e1, hgetj, hgaj, exV, dx, Int.toNat_natCast, List.length_map, go_sem, Nat.reduceDiv, Nat.reduceMod, ↓reduceIte, Nat.reduceEqDiff, Nat.reduceBEq, Nat.reduceSub, Nat.reduceLT, Nat.reduceAdd, Nat.reduceLeDiff, reduceCtorEq, Int.reduceEq, Int.reduceNe, Int.reduceLT, Int.reduceLE, Int.reduceToNat]
          (repeat' apply And.intro)
          all_goals first | omega | (first | omega | (simp only [lenOk, bytesOk, inI, IntKind.bits, List.length_append, Bs_len, List.length_cons, List.length_nil, List.length_map, List.length_take, List.length_drop, List.length_replicate]; omega)) | skip
          exact hR2 _ j (by omega) (by omega) (by rw [hst]; rfl)
        · have dx : decide (x.1 = kk) = false := decide_eq_false hx
          rw [if_neg hx] at hst
          simp only [b_glvalues_0, d1, e1, hgetj, hgaj, exV, dx, Int.toNat_natCast, List.length_map, go_sem, Nat.reduceDiv, Nat.reduceMod, ↓reduceIte, Nat.reduceEqDiff, Nat.reduceBEq, Nat.reduceSub, Nat.reduceLT, Nat.reduceAdd, Nat.reduceLeDiff, reduceCtorEq, Int.reduceEq, Int.reduceNe, Int.reduceLT, Int.reduceLE, Int.reduceToNat]
          (repeat' apply And.intro)
          all_goals first | omega | (first | omega | (simp only [lenOk, bytesOk, inI, IntKind.bits, List.length_append, Bs_len, List.length_cons, List.length_nil, List.length_map, List.length_take, List.length_drop, List.length_replicate]; omega)) | skip
          exact hR2 _ j (by omega) (by omega) (by rw [hst]; rfl)
    · by_cases hie : i = de.length
      · have c1 : decide ((i : Int) ≤ (de.length : Int)) = true := decide_eq_true (by omega)
        have c2 : decide ((i : Int) < (de.length : Int)) = false := decide_eq_false (by omega)
        simp only [b_glvalues_1, c1, c2, Int.toNat_natCast, List.length_map, go_sem, Nat.reduceDiv, Nat.reduceMod, ↓reduceIte, Nat.reduceEqDiff, Nat.reduceBEq, Nat.reduceSub, Nat.reduceLT, Nat.reduceAdd, Nat.reduceLeDiff, reduceCtorEq, Int.reduceEq, Int.reduceNe, Int.reduceLT, Int.reduceLE, Int.reduceToNat]
        refine ⟨by (first | omega | (simp only [lenOk, bytesOk, inI, IntKind.bits, List.length_append, Bs_len, List.length_cons, List.length_nil, List.length_map, List.length_take, List.length_drop, List.length_replicate]; omega)), ?_⟩
        refine loop2P (m := 0) [] [1, 5, 6, 7, 8, 9, 10] [0, 1, 2] (fun j : Nat => ⟨[(1, .str k), (5, .ref 0 0 0), (6, .int .i64 (i : Int)), (7, .str k), (8, .str (valG (de.drop j) k).1), (9, .bool (valG (de.drop j) k).2), (10, .int .i64 ((j : Int) - 1))], [.cells 31 [(20, .blob (dm.map U)), (1, .str du), (1, .int .i64 dt), (1, .int .i64 dz), (1, .own 1 de.length), (1, .own 2 df.length), (1, .str dd)], .row 44 2 de.length (de.map exV), .row 9 1 df.length (df.map AV.str)]⟩)
          (fun j => j ≤ de.length) (fun j => j) de.length ?_ (Nat.le_refl _) ⟨rfl, by rfl⟩ (fun j hj R2 hR2 => ?_)
        · rw [List.drop_length]; rfl
        cases j with
        | zero =>
          have d1 : decide ((0 : Int) ≤ 0 - 1) = false := rfl
          simp only [b_glvalues_0, t_glvalues_0, t_glvalues_1, r_glvalues, d1, phiGV_2, gvalS, unEx_map, List.drop_zero, List.length_map, Bool.xor_self, go_sem, Nat.reduceDiv, Nat.reduceMod, ↓reduceIte, Nat.reduceEqDiff, Nat.reduceBEq, Nat.reduceSub, Nat.reduceLT, Nat.reduceAdd, Nat.reduceLeDiff, reduceCtorEq, Int.reduceEq, Int.reduceNe, Int.reduceLT, Int.reduceLE, Int.reduceToNat]
          exact ⟨⟨.inl trivial, by omega⟩, by (first | omega | (simp only [lenOk, bytesOk, inI, IntKind.bits, List.length_append, Bs_len, List.length_cons, List.length_nil, List.length_map, List.length_take, List.length_drop, List.length_replicate]; omega)), hR _ (i + 1) (by omega) (by omega) rfl⟩
        | succ j =>
          have hjl : j < de.length := hj
          have d1 : decide ((0 : Int) ≤ (j : Int)) = true := decide_eq_true (by omega)
          have e1 : (((j + 1 : Nat) : Int) - 1) = (j : Int) := by omega
          have hgetj := getD_map exV de ([], []) (AV.agg [(1, AV.str []), (1, AV.str [])]) hjl
          have hgaj : de.getD j ([], []) = de[j] := by simp [List.getD_eq_getElem?_getD, List.getElem?_eq_getElem hjl]
          have hst := valG_drop de k hjl
          generalize de[j] = x at *
          by_cases hx : x.1 = k
          · have dx : decide (x.1 = k) = true := decide_eq_true hx
            rw [if_pos hx] at hst
            simp only [b_glvalues_0, d1, e1, hgetj, hgaj, exV, dx, Int.toNat_natCast, List.length_map, go_sem, Nat.reduceDiv, Nat.reduceMod, ↓reduceIte, Nat.reduceEqDiff, Nat.reduceBEq, Nat.reduceSub, Nat.reduceLT, Nat.reduceAdd, Nat.reduceLeDiff, reduceCtorEq, Int.reduceEq, Int.reduceNe, Int.reduceLT, Int.reduceLE, Int.reduceToNat]
            (repeat' apply And.intro)
            all_goals first | omega | (first | omega | (simp only [lenOk, bytesOk, inI, IntKind.bits, List.length_append, Bs_len, List.length_cons, List.length_nil, List.length_map, List.length_take, List.length_drop, List.length_replicate]; omega)) | skip
            exact hR2 _ j (by omega) (by omega) (by rw [hst]; rfl)
          · have dx : decide (x.1 = k) = false := decide_eq_false hx
            rw [if_neg hx] at hst
            simp only [b_glvalues_0, d1, e1, hgetj, hgaj, exV, dx, Int.toNat_natCast, List.length_map, go_sem, Nat.reduceDiv, Nat.reduceMod, ↓reduceIte, Nat.reduceEqDiff, Nat.reduceBEq, Nat.reduceSub, Nat.reduceLT, Nat.reduceAdd, Nat.reduceLeDiff, reduceCtorEq, Int.reduceEq, Int.reduceNe, Int.reduceLT, Int.reduceLE, Int.reduceToNat]
            (repeat' apply And.intro)
            all_goals first | omega | (first | omega | (simp only [lenOk, bytesOk, inI, IntKind.bits, List.length_append, Bs_len, List.length_cons, List.length_nil, List.length_map, List.length_take, List.length_drop, List.length_replicate]; omega)) | skip
            exact hR2 _ j (by omega) (by omega) (by rw [hst]; rfl)
      · have c1 : decide ((i : Int) ≤ (de.length : Int)) = false := decide_eq_false (by omega)
        simp only [b_glvalues_1, t_glvalues_2, r_glvalues, c1, phiGV_3, gknownS, List.length_map, go_sem, Nat.reduceDiv, Nat.reduceMod, ↓reduceIte, Nat.reduceEqDiff, Nat.reduceBEq, Nat.reduceSub, Nat.reduceLT, Nat.reduceAdd, Nat.reduceLeDiff, reduceCtorEq, Int.reduceEq, Int.reduceNe, Int.reduceLT, Int.reduceLE, Int.reduceToNat]
  · cases hs
theorem changeValues_walk {v : Value} {l1 : List UInt8} (w : World) (w0 : ChgArg w v) (w1 : (ByteArray.mk l1.toArray).size ≤ maxLen) (g : GlobOk w (fun b => b < w.heap.size)) :
    Calls Tryd.prog 5 #[v, .string ⟨l1.toArray⟩] w fun e w' => e = .returned (.bool true) ∧ Below w.heap.size w w' := by
  obtain ⟨c, hv, hc⟩ := w0
  exact lgval_ok.calls_bool (xs := [chgAV c, .str l1]) rfl
    ⟨⟨by rw [unV_U], by rw [unEx_map], by rw [unS_map], .inl rfl, rfl⟩, by rw [unV_U, unEx_map, unS_map]; exact hc, by simpa [ByteArray.size, maxLen] using w1⟩ rfl
    (args_cons (hv _) (args_cons (Vl.str' l1) (args_nil g)))
end Go.Proofs.YtfabdnpeohpgnaaDoor
namespace Go.Proofs.YtfabdnpeohpgnaaDoor
set_option linter.all false
open Go.ChangeShapes Go.WideShapes Go.ChangeAt Go.RowKit Go.ChangeMaps
set_option linter.unusedVariables false
theorem changeValues_own : ownKnob Tryd.prog.godebug = none := by kernel_rfl
theorem changeValues_laid : laidOutB Tryd.prog = true := by kernel_rfl
set_option maxRecDepth 100000 in
theorem changeValues_lifted (os : Os) (started : os.Started) (H : Type) (enc : TypeId × Value → H) :
    ReturnsInHanded {} Tryd.checked os 5 .any (fun w args => (Rows.changeValuesSpec.pre enc Tryd.prog Tryd.f5 Rows.changeValuesRow.domain false w args ∧ laidMetH Tryd.prog Rows.changeValuesRow.laid w) ∧ sizedMet enc Tryd.prog Tryd.f5 (OpenSpec.ofChange Rows.changeValuesSpec) false w args)
      (Rows.changeValuesSpec.post enc Tryd.prog Tryd.f5 false true false false) := by
  refine returns_shaped (C := Tryd.checked) (X := fun w _ => laidMetH Tryd.prog Rows.changeValuesRow.laid w) (fun _ _ _ hh h => h.of_heap hh) changeValues_own started (by kernel_rfl) Tryd.func5
    (ChangeSpec.witness_shaped (enc := enc) (C := Tryd.checked) (os := os) (X := fun w _ => laidMetH Tryd.prog Rows.changeValuesRow.laid w) false (World.laidAll Tryd.prog os Rows.changeValuesRow.laid) #[.agg (List.append (α := Value) (List.replicate 20 (.int .u8 0)) [.string ⟨#[]⟩, .int .i64 0, .int .i64 0, .slice none 0 0, .slice none 0 0, .string ⟨#[]⟩]).toArray, .string ⟨#[]⟩] 8 (World.laidAll_os _ _ _) (World.shaped_of_ZipB (by kernel_rfl) (by kernel_rfl)) (by kernel_rfl) (by kernel_rfl) (by kernel_rfl) (by rw [MakeChecks.laidMetH_plain _ _ _ (by kernel_rfl)]; exact laidMet_laidAll _ (by kernel_rfl) (by kernel_rfl))) ?_
  intro W base args ds gs before hval0 hW hL hsh
  have hval : ∀ (j : Nat) t v, Tryd.f5.params[j]? = some t → args[j]? = some v → Value.okWide Tryd.prog W .any base t v := hval0
  have hW' := hW
  obtain ⟨p, q, hA0, hV, rfl, hfz, hnd⟩ := hW
  have hA : DataW.TrodAll enc Tryd.prog W 0 (fun _ => true) true Tryd.f5.params.toList args.toList ds p := hA0
  rw [Tryd.params5] at hA hval
  obtain ⟨v0, vs0, d0, ds0, p0, q0, hargs, rfl, rfl, h0, r0⟩ := trodAll_cons hA
  obtain ⟨v1, vs1, d1, ds1, p1, q1, rfl, rfl, rfl, h1, r1⟩ := trodAll_cons r0
  obtain ⟨rfl, rfl, rfl⟩ := trodAll_nil r1
  obtain rfl : args = #[v0, v1] := by cases args; simp_all
  obtain ⟨rfl, rfl⟩ := trodVars_none hV
  have g0 := h0
  have lt0 : ∀ x ∈ p0, x.block < W.heap.size := by obtain ⟨m, hm⟩ := g0; exact DataW.trod_lt m _ _ _ hm
  have w0 : ChgArg W v0 := open_chg Tryd.underlying26 rfl rfl rfl rfl rfl rfl rfl rfl rfl rfl Tryd.underlying22 Tryd.underlying5 Tryd.underlying23 Tryd.underlying48 rfl rfl Tryd.underlying24 Tryd.underlying9 Tryd.underlying9 Tryd.underlying3 Tryd.underlying3 Tryd.underlying9 Tryd.underlying9 Tryd.underlying9 (by kernel_rfl) (by kernel_rfl) (by kernel_rfl) (by kernel_rfl) (by kernel_rfl) (by kernel_rfl) (by kernel_rfl) (by kernel_rfl) (by kernel_rfl) (by kernel_rfl) (by kernel_rfl) (by kernel_rfl) (by kernel_rfl) (hval 0 26 v0 rfl rfl) h0
  have g1 := h1
  have lt1 : ∀ x ∈ p1, x.block < W.heap.size := by obtain ⟨m, hm⟩ := g1; exact DataW.trod_lt m _ _ _ hm
  obtain ⟨s1, rfl, rfl, rfl, w1⟩ := open_string Tryd.underlying9 (hval 1 9 v1 rfl rfl) h1
  obtain ⟨⟨l1⟩⟩ := s1
  clear hA0 hval0
  refine (changeValues_walk W w0 w1 (glob_of_laid hL hsh)).mono fun e W' ⟨he, bel⟩ => ?_
  subst he
  exact ⟨_, rfl, _, _, _, [], _, [], hW', trodAll_mk1 (shut_bool Tryd.underlying4 _), (trodAll_cons_mk (Below.trod changeValues_laid (by kernel_rfl) (of_decide_eq_true (by kernel_rfl)) g0 bel lt0) (trodAll_cons_mk (Below.trod changeValues_laid (by kernel_rfl) (of_decide_eq_true (by kernel_rfl)) g1 bel lt1) trodAll_mk0)), rfl, bel.frame _, fun h => by cases h⟩
theorem changeValues_row : Rows.ChangeValuesSaid :=
  OpenClaim.holds_of_wide 5 Tryd.f5 rfl rfl rfl rfl rfl rfl rfl ⟨rfl, rfl, rfl, rfl, rfl⟩ rfl rfl rfl rfl rfl (by kernel_rfl) Tryd.func5 (by kernel_rfl)
    (of_decide_eq_true (by kernel_rfl)) (by unfold Func.isWrapper; first | (rw [if_pos (by decide +kernel)]; kernel_rfl) | (rw [if_neg (by decide +kernel)]; exact ⟨rfl, rfl⟩))
    (fun os started H enc _ => changeValues_lifted os started H enc)
theorem changeValues_proved : Rows.ChangeValuesCardSaid :=
  Claim7.holds_tied_plain_at .later [] [.data, .data, .data, .data, .sentinel, .sentinel, .pinned] true (true, "f955a4003d5340cb1bad0a17146a221c5b4a062f28910e21f9f764634e58e770") true
    changeValues_row (fun _ h => by cases h) (by kernel_rfl) (fun _ h => by cases h) changeValues_row_tie rfl ⟨rfl, rfl⟩ (by kernel_rfl) rfl
    (fun f fn hf hfn => by
      obtain rfl : f = 5 := Option.some.inj ((show Tryd.prog.funcNamed "tramway/tramwaylaw19.ChangeValues" = some 5 by kernel_rfl).symm.trans hf) |>.symm
      obtain rfl : fn = Tryd.f5 := (Option.some.inj (Tryd.func5.symm.trans hfn)).symm
      exact ⟨by kernel_rfl, fun j t ht => by
        rw [Tryd.params5] at ht
        have hm : t ∈ [26, 9] := by simpa using Array.mem_of_getElem? ht
        have hall : ([26, 9].all fun u => !Tryd.prog.wantsStandIn u) = true := by kernel_rfl
        exact (show Tryd.prog.wantsStandIn t = false by simpa using List.all_eq_true.1 hall t hm)⟩)
    (by kernel_rfl)
end Go.Proofs.YtfabdnpeohpgnaaDoor
