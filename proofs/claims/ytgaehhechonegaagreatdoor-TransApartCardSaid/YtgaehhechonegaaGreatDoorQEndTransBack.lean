import Derived.Test.YtgaehhechonegaaGreatDoorTie
import Derived.Lay
import Derived.Stop.Joined
import Derived.Test.YtgaehhechonegaaGreatDoorCards
import Derived.Test.YtgaehhechonegaaGreatDoorQAMS
import Derived.SevenTiedAt
import Derived.Test.YtgaehhechonegaaGreatDoorQFLTrn1
import Derived.ProofKit
import Derived.OpenShut
import Derived.ChangeOld
import Derived.Below
import Derived.Carry
import Derived.Test.YtgaehhechonegaaGreatDoorChecked
namespace Go.Proofs.YtgaehhechonegaaGreatDoor
set_option linter.all false
open Go.ChangeShapes Go.WideShapes Go.ChangeAt Go.RowKit
set_option linter.unusedVariables false
theorem transBack_own : ownKnob Tryz.prog.godebug = none := by kernel_rfl
theorem transBack_laid : laidOutB Tryz.prog = true := by kernel_rfl
set_option maxRecDepth 100000 in
theorem transBack_lifted (os : Os) (started : os.Started) (H : Type) (enc : TypeId × Value → H) :
    ReturnsInHanded {} Tryz.checked os 5 .any (fun w args => (Rows.transBackSpec.pre enc Tryz.prog Tryz.f5 Rows.transBackRow.domain false w args ∧ laidMetH Tryz.prog Rows.transBackRow.laid w) ∧ sizedMet enc Tryz.prog Tryz.f5 (OpenSpec.ofChange Rows.transBackSpec) false w args)
      (Rows.transBackSpec.post enc Tryz.prog Tryz.f5 false true false false) := by
  refine returns_shaped (C := Tryz.checked) (X := fun w _ => laidMetH Tryz.prog Rows.transBackRow.laid w) (fun _ _ _ hh h => h.of_heap hh) transBack_own started (by kernel_rfl) Tryz.func5
    (ChangeSpec.witness_shaped (enc := enc) (C := Tryz.checked) (os := os) (X := fun w _ => laidMetH Tryz.prog Rows.transBackRow.laid w) false (World.laidAll Tryz.prog os Rows.transBackRow.laid) #[.agg (List.append (α := Value) (List.replicate 20 (.int .u8 0)) [.slice none 0 0, .string ⟨#[]⟩, .string ⟨#[]⟩, .int .i64 0, .string ⟨#[]⟩, .string ⟨#[]⟩, .string ⟨#[]⟩, .int .i64 0, .string ⟨#[]⟩, .slice none 0 0, .string ⟨#[]⟩]).toArray] 8 (World.laidAll_os _ _ _) (World.shaped_of_ZipB (by kernel_rfl) (by kernel_rfl)) (by kernel_rfl) (by kernel_rfl) (by kernel_rfl) (by rw [MakeChecks.laidMetH_plain _ _ _ (by kernel_rfl)]; exact laidMet_laidAll _ (by kernel_rfl) (by kernel_rfl))) ?_
  intro W base args ds gs before hval0 hW hL hsh
  have hval : ∀ (j : Nat) t v, Tryz.f5.params[j]? = some t → args[j]? = some v → Value.okWide Tryz.prog W .any base t v := hval0
  have hW' := hW
  obtain ⟨p, q, hA0, hV, rfl, hfz, hnd⟩ := hW
  have hA : DataW.TrodAll enc Tryz.prog W 0 (fun _ => true) true Tryz.f5.params.toList args.toList ds p := hA0
  rw [Tryz.params5] at hA hval
  obtain ⟨v0, vs0, d0, ds0, p0, q0, hargs, rfl, rfl, h0, r0⟩ := trodAll_cons hA
  obtain ⟨rfl, rfl, rfl⟩ := trodAll_nil r0
  obtain rfl : args = #[v0] := by cases args; simp_all
  obtain ⟨rfl, rfl⟩ := trodVars_none hV
  have g0 := h0
  have lt0 : ∀ x ∈ p0, x.block < W.heap.size := by obtain ⟨m, hm⟩ := g0; exact DataW.trod_lt m _ _ _ hm
  have w0 : ComArg W v0 := open_com Tryz.underlying28 rfl rfl rfl rfl rfl rfl rfl rfl rfl rfl rfl Tryz.underlying22 Tryz.underlying5 Tryz.underlying23 Tryz.underlying26 Tryz.underlying65 rfl rfl Tryz.underlying25 rfl rfl rfl rfl Tryz.underlying9 Tryz.underlying9 Tryz.underlying9 Tryz.underlying9 Tryz.underlying9 Tryz.underlying3 Tryz.underlying9 (by kernel_rfl) (by kernel_rfl) (by kernel_rfl) (by kernel_rfl) (by kernel_rfl) (by kernel_rfl) (by kernel_rfl) (by kernel_rfl) (by kernel_rfl) (by kernel_rfl) (by kernel_rfl) (by kernel_rfl) (by kernel_rfl) (by kernel_rfl) (hval 0 28 v0 rfl rfl) h0
  clear hA0 hval0
  refine (transBack_walk W w0 (glob_of_laid hL hsh)).mono fun e W' ⟨he, bel⟩ => ?_
  subst he
  exact ⟨_, rfl, _, _, _, [], _, [], hW', trodAll_mk1 (shut_bool Tryz.underlying4 _), (trodAll_cons_mk (Below.trod transBack_laid (by kernel_rfl) (of_decide_eq_true (by kernel_rfl)) g0 bel lt0) trodAll_mk0), rfl, bel.frame _, fun h => by cases h⟩
theorem transBack_row : Rows.TransBackSaid :=
  OpenClaim.holds_of_wide 5 Tryz.f5 rfl rfl rfl rfl rfl rfl rfl ⟨rfl, rfl, rfl, rfl, rfl⟩ rfl rfl rfl rfl rfl (by kernel_rfl) Tryz.func5 (by kernel_rfl)
    (of_decide_eq_true (by kernel_rfl)) (by unfold Func.isWrapper; first | (rw [if_pos (by decide +kernel)]; kernel_rfl) | (rw [if_neg (by decide +kernel)]; exact ⟨rfl, rfl⟩))
    (fun os started H enc _ => transBack_lifted os started H enc)
theorem transBack_proved : Rows.TransBackCardSaid :=
  Claim7.holds_tied_plain_at .later [] [.data, .data, .data, .data, .sentinel, .sentinel, .pinned] true (true, "db646f1bcdefcf265fd592b8637b6a1e9f9abe049a2ea3499e45ded016ebd571") true
    transBack_row (fun _ h => by cases h) (by kernel_rfl) (fun _ h => by cases h) transBack_row_tie rfl ⟨rfl, rfl⟩ (by kernel_rfl) rfl
    (fun f fn hf hfn => by
      obtain rfl : f = 5 := Option.some.inj ((show Tryz.prog.funcNamed "tramway/tramwaylaw23.TransBack" = some 5 by kernel_rfl).symm.trans hf) |>.symm
      obtain rfl : fn = Tryz.f5 := (Option.some.inj (Tryz.func5.symm.trans hfn)).symm
      exact ⟨by kernel_rfl, fun j t ht => by
        rw [Tryz.params5] at ht
        have hm : t ∈ [28] := by simpa using Array.mem_of_getElem? ht
        have hall : ([28].all fun u => !Tryz.prog.wantsStandIn u) = true := by kernel_rfl
        exact (show Tryz.prog.wantsStandIn t = false by simpa using List.all_eq_true.1 hall t hm)⟩)
    (by kernel_rfl)
end Go.Proofs.YtgaehhechonegaaGreatDoor
namespace Go.Proofs.YtgaehhechonegaaGreatDoor
set_option linter.all false
open Go.RowKit
open Go.Lib (itoa)
theorem toH_sz2 (c : ChgL) (h : chgB9 c) : (wordsT (ownH (toH c))).length ≤ 25000 := by
  obtain ⟨⟨s1, s2, s3, s4, s5, s6, s7, s8, s9, s10, s11⟩, -⟩ := toH_size c h
  obtain ⟨h1, h2, h3, h4, h5, h6, h7, h8, h9⟩ := h
  have u1 : (toH c).user.length ≤ 200 := by simp only [toH, List.length_take]; omega
  have e1 : (toH c).extras.length ≤ 20 := by simp only [toH, List.length_map, List.length_take]; omega
  have e2 : ∀ x ∈ (toH c).extras, x.1.length ≤ 200 ∧ x.2.length ≤ 200 := by
    intro x hx
    obtain ⟨y, _, rfl⟩ := List.mem_map.1 hx
    simp only [exCut, List.length_take]; omega
  generalize toH c = d at *
  have l1 := Lib.itoa_length_le d.time s10.1 s10.2
  have l2 := Lib.itoa_length_le d.zone s11.1 s11.2
  have hw := wExt_le d.extras e2
  have hf := flat_ex d.extras
  have hw2 : 402 * d.extras.length ≤ 402 * 20 := Nat.mul_le_mul_left _ e1
  unfold wordsT ownH
  simp only [List.length_append, List.length_cons]
  omega
theorem wrap_size {x : ChgL} (hw : (wordsT x).length ≤ 25000) (hd : x.desc.length ≤ 90000) (ht : inI x.time) : szC (wrapC x) ∧ mz (wrapC x).extras ≤ 100000 := by
  have t1 := textW_le (w := hgWho x.time) ht
  have hs := subst1_len 10 [10, 32] (wordsT x)
  have hh := hexL_length zr20
  have hz : (zr20 : List UInt8).length = 20 := rfl
  refine ⟨⟨?_, hd⟩, ?_⟩
  · have := congrArg List.length (bodyC_shape (noM (wrapC x)))
    simp only [noM, wrapC, hgWho, hgW, List.flatMap_cons, List.flatMap_nil, exL, List.length_append, List.length_cons, List.length_nil, treW, autW, comW] at this t1 hs ⊢
    omega
  · show mz [(hgW, wordsT x)] ≤ 100000
    simp only [mz, List.map_cons, List.map_nil, List.sum_cons, List.sum_nil]; omega
theorem bkx_size (n : Nat) {x : ChgL} (hw : (wordsT x).length ≤ 25000) (hm : mz x.extras ≤ 10000) (hd : x.desc.length ≤ 90000) (ht : inI x.time) : szC ((obF n).2 x) ∧ mz ((obF n).2 x).extras ≤ 100000 := by
  have hp := wrap_size hw hd ht
  cases n with
  | zero => exact hp
  | succ n =>
    rw [obF_back]; unfold bkStep
    cases ho : only1 x.extras with
    | none => exact hp
    | some y =>
      obtain ⟨k, v⟩ := y
      simp only
      split
      · rename_i hh
        have h2 := mz_one ho
        simp only at h2
        have h3 := (body_com hh.2.1).2
        have h4 := par_mz hh.2.1
        obtain ⟨n1, n2, n3⟩ := noTree_iff.1 hh.2.2.1
        have h5 : noM (withM (parC11 v) x.desc) = parC11 v := by
          generalize parC11 v = p at n1 n2 n3
          obtain ⟨pt, pp, pa, pc, pe, pm⟩ := p
          simp only at n1 n2 n3; subst n1; subst n2; subst n3; rfl
        refine ⟨⟨by rw [h5, h3]; omega, hd⟩, ?_⟩
        show mz (parC11 v).extras ≤ 100000
        omega
      · exact hp
theorem szC_full {y : ComL} (hr : rightC y = true) (ht : y.tree = zr20) (hp : y.parents = []) (hs : szC y) : sizeOkC y := by
  have hk := szC_ok hr hs
  obtain ⟨ha, hb⟩ := hs
  obtain ⟨yt, yp, ya, yc, ye, ym⟩ := y
  simp only at ht hp hb; subst ht; subst hp
  obtain ⟨-, -, -, -, a5, a6, a7, a8⟩ := hk
  refine ⟨?_, rfl, fun p hp => (by cases hp), Nat.zero_le _, a5, a6, a7, a8⟩
  have := congrArg List.length (bodyC_shape ⟨zr20, [], ya, yc, ye, ym⟩)
  have h2 := congrArg List.length (bodyC_shape (noM ⟨zr20, [], ya, yc, ye, ym⟩))
  simp only [noM, List.length_append, List.length_cons, List.flatMap_nil, List.length_nil] at this h2 ha ⊢
  omega
theorem alone_id {y : ComL} (ht : y.tree = zr20) (hp : y.parents = []) : aloneC y = y := by
  obtain ⟨yt, yp, ya, yc, ye, ym⟩ := y
  simp only at ht hp; subst ht; subst hp; rfl
theorem bk_tchg (c : ChgL) (h : chgB9 c) (hr : rightH (ownH (toH c)) = true) : tchgPre 100000 ((obF 10000).2 (ownH (toH c))) ∧ (obF 100000).1 ((obF 10000).2 (ownH (toH c))) = ownH (toH c) := by
  obtain ⟨y1, y2, y3⟩ := toH_sz c h
  have hw := toH_sz2 c h
  have ht : inI (ownH (toH c)).time := h.2.2.1
  obtain ⟨o1, o2, o3⟩ := back_right 10000 (x := ownH (toH c)) hr
  obtain ⟨s1, s2⟩ := bkx_size 10000 (x := ownH (toH c)) hw y3 y2.2 ht
  refine ⟨⟨szC_full o1 o2 o3 s1, by rw [alone_id o2 o3]; exact s1, s2⟩, of_back (x := ownH (toH c)) hr rfl rfl y3 s2⟩
theorem ownH_size (c : ChgL) (h : chgB9 c) : tcomPre 10000 (ownH (toH c)) := by
  obtain ⟨y1, y2, y3⟩ := toH_sz c h
  exact ⟨rfl, y1, y2, y3⟩
end Go.Proofs.YtgaehhechonegaaGreatDoor
namespace Go.Proofs.YtgaehhechonegaaGreatDoor
set_option linter.all false
open Go.RowKit
open Go.Lib (itoa)
noncomputable def phiTF : Phi := phiL [(18, [], lgtoZ), (15, [], lgofZ), (19, [], tcomS 10000), (11, [], tchgS 100000), (21, [], rownS), (14, [], rgsameS), (13, [], tknownS), (10, [], lofZ), (17, [], rsameS)]
theorem phiTF_ok : PhiOk Tryz.prog phiTF := phi_cons lgtoZ_ok (by kernel_rfl) (phi_cons lgofZ_ok (by kernel_rfl) (phi_cons (tcom_ok 10000) (by kernel_rfl) (phi_cons (tchg_ok 100000) (by kernel_rfl) (phi_cons rown_ok (by kernel_rfl) (phi_cons rgsame_ok (by kernel_rfl) (phi_cons tknown_ok (by kernel_rfl) (phi_cons lofZ_ok (by kernel_rfl) (phi_cons rsame_ok (by kernel_rfl) phi_nil))))))))
theorem phiTF_1 : phiTF 18 = some ([], lgtoZ) := rfl
theorem phiTF_2 : phiTF 15 = some ([], lgofZ) := rfl
theorem phiTF_3 : phiTF 19 = some ([], tcomS 10000) := rfl
theorem phiTF_4 : phiTF 11 = some ([], tchgS 100000) := rfl
theorem phiTF_5 : phiTF 21 = some ([], rownS) := rfl
theorem phiTF_6 : phiTF 14 = some ([], rgsameS) := rfl
theorem phiTF_7 : phiTF 13 = some ([], tknownS) := rfl
theorem phiTF_8 : phiTF 10 = some ([], lofZ) := rfl
theorem phiTF_9 : phiTF 17 = some ([], rsameS) := rfl
set_option maxHeartbeats 8000000 in
set_option maxRecDepth 8000 in
theorem tlforth_ok : FnOk Tryz.prog 6 tlcomS := by
  refine fn_slim2 Tryz.func6 s_tlforth phiTF_ok ?_
  intro xs hp r hs hp'
  unfold tlcomS at hs
  split at hs
  · injection hs with hs; subst hs
    rename_i m u t z ke es kf fs d
    obtain ⟨q0, p1⟩ := hp'
    refine ⟨len_le (by kernel_rfl), ?_⟩
    generalize hc : (⟨unV m, u, t, z, es.map unEx, fs.map unS, d⟩ : ChgL) = c at *
    have hmx := max_of p1
    obtain ⟨z1, z2⟩ := toH_size c p1
    obtain ⟨y1, y2, y3⟩ := toH_sz c p1
    have hT := bk_tchg c p1
    have hA := ownH_size c p1
    generalize hd : toH c = d at *
    obtain ⟨dm, du, dt, dz, de, df, dd⟩ := d
    obtain ⟨h1, h2, h3, h4, h5, h6, h7, h8, h9, h10, h11⟩ := z1
    simp only [ownH] at h1 h2 h3 h4 h5 h6 h7 h8 h9 h10 h11 y3 hT hA
    have hmT := eq_true hmx
    have hpT : tcomPre 10000 ⟨dm, du, dt, dz, de, df, dd⟩ = True := eq_true ⟨h1, y1, y2, y3⟩
    have haT := eq_true hA
    cases hr : rightH ⟨zr20, du, dt, dz, de, [], dd⟩ with
    | false =>
      have e : ∀ z pr, tcomR 10000 ⟨dm, du, dt, dz, de, df, dd⟩ z pr = some ⟨.tup [z, .int .i64 4], [], pr⟩ := fun z pr => by
        unfold tcomR
        have : rightH (ownH ⟨dm, du, dt, dz, de, df, dd⟩) = false := hr
        rw [this]; rfl
      simp only [c_tlforth, hmT, hpT, r_tlforth, phiTF_1, phiTF_3, phiTF_7, lgtoZ, tcomS, tcomSz, tknownS, hc, hd, comPs, zComZ, who0, chgF, argG, unV_U, unEx_map, unS_map, Bool.false_eq_true, List.length_nil, e, go_sem, Nat.reduceDiv, Nat.reduceMod, ↓reduceIte, Nat.reduceSub, Nat.reduceLT, Nat.reduceAdd, Nat.reduceLeDiff, reduceCtorEq, Int.reduceEq]
      (repeat' apply And.intro); all_goals first | exact q0.1 | exact q0.2.1 | exact q0.2.2.1 | exact q0.2.2.2.1 | exact q0.2.2.2.2 | exact h1 | exact hmx.1 | exact .inl trivial | exact .inr trivial | exact .inr rfl | omega | exact h6 | rfl | trivial | (intro p hp; cases hp; done) | skip
    | true =>
      obtain ⟨hT1, hT2⟩ := hT hr
      obtain ⟨o1, o2, o3⟩ := back_right 10000 (x := ⟨zr20, du, dt, dz, de, [], dd⟩) hr
      have o4 := bkx_len 10000 ⟨zr20, du, dt, dz, de, [], dd⟩
      obtain ⟨⟨yt, yp, ⟨yan, yam, yat, yaz⟩, ⟨ycn, ycm, yct, ycz⟩, ye, ym⟩, hy⟩ : ∃ y, (obF 10000).2 ⟨zr20, du, dt, dz, de, [], dd⟩ = y := ⟨_, rfl⟩
      rw [hy] at o1 o2 o3 o4 hT1 hT2
      simp only at o2 o3 o4
      subst o2; subst o3
      obtain ⟨kk, hk⟩ : ∃ k, bkK 10000 ⟨zr20, du, dt, dz, de, [], dd⟩ = k := ⟨_, rfl⟩
      have hyT := eq_true hT1
      have e : ∀ z pr, tcomR 10000 ⟨dm, du, dt, dz, de, df, dd⟩ z pr = some ⟨.tup [comZ kk ⟨zr20, [], ⟨yan, yam, yat, yaz⟩, ⟨ycn, ycm, yct, ycz⟩, ye, ym⟩, .int .i64 0], [], pr⟩ := fun z pr => by
        unfold tcomR
        have h : ownH ⟨dm, du, dt, dz, de, df, dd⟩ = ⟨zr20, du, dt, dz, de, [], dd⟩ := rfl
        rw [h, hr, if_pos rfl, hy, hk]
      have e2 : ∀ z pr, tcomR 10000 ⟨zr20, du, dt, dz, de, [], dd⟩ z pr = some ⟨.tup [comZ kk ⟨zr20, [], ⟨yan, yam, yat, yaz⟩, ⟨ycn, ycm, yct, ycz⟩, ye, ym⟩, .int .i64 0], [], pr⟩ := fun z pr => by
        unfold tcomR
        have h : ownH ⟨zr20, du, dt, dz, de, [], dd⟩ = ⟨zr20, du, dt, dz, de, [], dd⟩ := rfl
        rw [h, hr, if_pos rfl, hy, hk]
      have e3 : ∀ z pr, tchgR 100000 ⟨zr20, [], ⟨yan, yam, yat, yaz⟩, ⟨ycn, ycm, yct, ycz⟩, ye, ym⟩ z pr = some ⟨.tup [chgZ ⟨zr20, du, dt, dz, de, [], dd⟩, .int .i64 0], [], pr⟩ := fun z pr => by
        have h : aloneC ⟨zr20, [], ⟨yan, yam, yat, yaz⟩, ⟨ycn, ycm, yct, ycz⟩, ye, ym⟩ = ⟨zr20, [], ⟨yan, yam, yat, yaz⟩, ⟨ycn, ycm, yct, ycz⟩, ye, ym⟩ := rfl
        unfold tchgR; rw [o1, if_pos rfl, h, hT2]
      simp only [c_tlforth, hyT, hmT, hpT, haT, r_tlforth, phiTF_1, phiTF_2, phiTF_3, phiTF_4, phiTF_5, phiTF_6, phiTF_7, phiTF_8, phiTF_9, lgtoZ, lgofZ, tcomS, tcomSz, tchgS, tchgSz, rgsameS, tknownS, lofZ, rsameS, rownS, hc, hd, comZ, comPs, zComZ, who0, chgF, chgZ, argC, argG, argS7, unV_U, unEx_map, unS_map, sameC_self, sameH_self, zr_len, Bool.false_eq_true, List.length_map, List.map_nil, List.length_nil, e, e2, e3, go_sem, Nat.reduceDiv, Nat.reduceMod, ↓reduceIte, Nat.reduceSub, Nat.reduceLT, Nat.reduceAdd, Nat.reduceLeDiff, reduceCtorEq]
      (repeat' apply And.intro); all_goals first | exact q0.1 | exact q0.2.1 | exact q0.2.2.1 | exact q0.2.2.2.1 | exact q0.2.2.2.2 | exact h1 | exact hmx.1 | exact .inl trivial | exact .inr trivial | exact .inr rfl | omega | exact h6 | rfl | trivial | (intro p hp; cases hp; done) | skip
  · cases hs
theorem transForth_walk {v : Value} (w : World) (w0 : ChgArg w v) (g : GlobOk w (fun b => b < w.heap.size)) :
    Calls Tryz.prog 6 #[v] w fun e w' => e = .returned (.bool true) ∧ Below w.heap.size w w' := by
  obtain ⟨c, hv, hc⟩ := w0
  exact tlforth_ok.calls_bool (xs := [chgAV c]) rfl
    ⟨⟨by rw [unV_U], by rw [unEx_map], by rw [unS_map], .inl rfl, rfl⟩, by rw [unV_U, unEx_map, unS_map]; exact hc⟩ rfl
    (args_cons (hv _) (args_nil g))
end Go.Proofs.YtgaehhechonegaaGreatDoor
namespace Go.Proofs.YtgaehhechonegaaGreatDoor
set_option linter.all false
open Go.ChangeShapes Go.WideShapes Go.ChangeAt Go.RowKit
set_option linter.unusedVariables false
theorem transForth_own : ownKnob Tryz.prog.godebug = none := by kernel_rfl
theorem transForth_laid : laidOutB Tryz.prog = true := by kernel_rfl
set_option maxRecDepth 100000 in
theorem transForth_lifted (os : Os) (started : os.Started) (H : Type) (enc : TypeId × Value → H) :
    ReturnsInHanded {} Tryz.checked os 6 .any (fun w args => (Rows.transForthSpec.pre enc Tryz.prog Tryz.f6 Rows.transForthRow.domain false w args ∧ laidMetH Tryz.prog Rows.transForthRow.laid w) ∧ sizedMet enc Tryz.prog Tryz.f6 (OpenSpec.ofChange Rows.transForthSpec) false w args)
      (Rows.transForthSpec.post enc Tryz.prog Tryz.f6 false true false false) := by
  refine returns_shaped (C := Tryz.checked) (X := fun w _ => laidMetH Tryz.prog Rows.transForthRow.laid w) (fun _ _ _ hh h => h.of_heap hh) transForth_own started (by kernel_rfl) Tryz.func6
    (ChangeSpec.witness_shaped (enc := enc) (C := Tryz.checked) (os := os) (X := fun w _ => laidMetH Tryz.prog Rows.transForthRow.laid w) false (World.laidAll Tryz.prog os Rows.transForthRow.laid) #[.agg (List.append (α := Value) (List.replicate 20 (.int .u8 0)) [.string ⟨#[]⟩, .int .i64 0, .int .i64 0, .slice none 0 0, .slice none 0 0, .string ⟨#[]⟩]).toArray] 8 (World.laidAll_os _ _ _) (World.shaped_of_ZipB (by kernel_rfl) (by kernel_rfl)) (by kernel_rfl) (by kernel_rfl) (by kernel_rfl) (by rw [MakeChecks.laidMetH_plain _ _ _ (by kernel_rfl)]; exact laidMet_laidAll _ (by kernel_rfl) (by kernel_rfl))) ?_
  intro W base args ds gs before hval0 hW hL hsh
  have hval : ∀ (j : Nat) t v, Tryz.f6.params[j]? = some t → args[j]? = some v → Value.okWide Tryz.prog W .any base t v := hval0
  have hW' := hW
  obtain ⟨p, q, hA0, hV, rfl, hfz, hnd⟩ := hW
  have hA : DataW.TrodAll enc Tryz.prog W 0 (fun _ => true) true Tryz.f6.params.toList args.toList ds p := hA0
  rw [Tryz.params6] at hA hval
  obtain ⟨v0, vs0, d0, ds0, p0, q0, hargs, rfl, rfl, h0, r0⟩ := trodAll_cons hA
  obtain ⟨rfl, rfl, rfl⟩ := trodAll_nil r0
  obtain rfl : args = #[v0] := by cases args; simp_all
  obtain ⟨rfl, rfl⟩ := trodVars_none hV
  have g0 := h0
  have lt0 : ∀ x ∈ p0, x.block < W.heap.size := by obtain ⟨m, hm⟩ := g0; exact DataW.trod_lt m _ _ _ hm
  have w0 : ChgArg W v0 := open_chg Tryz.underlying49 rfl rfl rfl rfl rfl rfl rfl rfl rfl rfl Tryz.underlying22 Tryz.underlying5 Tryz.underlying47 Tryz.underlying63 rfl rfl Tryz.underlying38 Tryz.underlying9 Tryz.underlying9 Tryz.underlying3 Tryz.underlying3 Tryz.underlying9 Tryz.underlying9 Tryz.underlying9 (by kernel_rfl) (by kernel_rfl) (by kernel_rfl) (by kernel_rfl) (by kernel_rfl) (by kernel_rfl) (by kernel_rfl) (by kernel_rfl) (by kernel_rfl) (by kernel_rfl) (by kernel_rfl) (by kernel_rfl) (by kernel_rfl) (hval 0 49 v0 rfl rfl) h0
  clear hA0 hval0
  refine (transForth_walk W w0 (glob_of_laid hL hsh)).mono fun e W' ⟨he, bel⟩ => ?_
  subst he
  exact ⟨_, rfl, _, _, _, [], _, [], hW', trodAll_mk1 (shut_bool Tryz.underlying4 _), (trodAll_cons_mk (Below.trod transForth_laid (by kernel_rfl) (of_decide_eq_true (by kernel_rfl)) g0 bel lt0) trodAll_mk0), rfl, bel.frame _, fun h => by cases h⟩
theorem transForth_row : Rows.TransForthSaid :=
  OpenClaim.holds_of_wide 6 Tryz.f6 rfl rfl rfl rfl rfl rfl rfl ⟨rfl, rfl, rfl, rfl, rfl⟩ rfl rfl rfl rfl rfl (by kernel_rfl) Tryz.func6 (by kernel_rfl)
    (of_decide_eq_true (by kernel_rfl)) (by unfold Func.isWrapper; first | (rw [if_pos (by decide +kernel)]; kernel_rfl) | (rw [if_neg (by decide +kernel)]; exact ⟨rfl, rfl⟩))
    (fun os started H enc _ => transForth_lifted os started H enc)
theorem transForth_proved : Rows.TransForthCardSaid :=
  Claim7.holds_tied_plain_at .later [] [.data, .data, .data, .data, .sentinel, .sentinel, .pinned] true (true, "db646f1bcdefcf265fd592b8637b6a1e9f9abe049a2ea3499e45ded016ebd571") true
    transForth_row (fun _ h => by cases h) (by kernel_rfl) (fun _ h => by cases h) transForth_row_tie rfl ⟨rfl, rfl⟩ (by kernel_rfl) rfl
    (fun f fn hf hfn => by
      obtain rfl : f = 6 := Option.some.inj ((show Tryz.prog.funcNamed "tramway/tramwaylaw23.TransForth" = some 6 by kernel_rfl).symm.trans hf) |>.symm
      obtain rfl : fn = Tryz.f6 := (Option.some.inj (Tryz.func6.symm.trans hfn)).symm
      exact ⟨by kernel_rfl, fun j t ht => by
        rw [Tryz.params6] at ht
        have hm : t ∈ [49] := by simpa using Array.mem_of_getElem? ht
        have hall : ([49].all fun u => !Tryz.prog.wantsStandIn u) = true := by kernel_rfl
        exact (show Tryz.prog.wantsStandIn t = false by simpa using List.all_eq_true.1 hall t hm)⟩)
    (by kernel_rfl)
end Go.Proofs.YtgaehhechonegaaGreatDoor
namespace Go.Proofs.YtgaehhechonegaaGreatDoor
set_option linter.all false
open Go.RowKit
def k_tlapt_4 : ACode := (.seq (.reg none [⟨(some 53), (.ld (.st 26) (.t 6)), none⟩, ⟨(some 54), (.call 18 [(.t 53)]), none⟩, ⟨(some 55), (.call 19 [(.t 54)]), none⟩, ⟨(some 52), (.mv (.t 55)), none⟩, ⟨(some 56), (.ext (.t 52) 0), none⟩, ⟨(some 57), (.ext (.t 52) 1), none⟩, ⟨(some 13), (.new 34 [(20, (.blob (List.replicate 20 (.int .u8 0)))), (1, (.con (.slice none 0 0))), (1, (.str [])), (1, (.str [])), (1, (.int .i64 0)), (1, (.str [])), (1, (.str [])), (1, (.str [])), (1, (.int .i64 0)), (1, (.str [])), (1, (.con (.slice none 0 0))), (1, (.str []))]), none⟩, ⟨none, (.st (.st 31) (.t 13) (.t 56)), none⟩, ⟨(some 14), (.mv (.t 57)), none⟩]) (.seq (.reg none [⟨(some 59), (.ld (.st 26) (.t 7)), none⟩, ⟨(some 60), (.call 18 [(.t 59)]), none⟩, ⟨(some 61), (.call 19 [(.t 60)]), none⟩, ⟨(some 58), (.mv (.t 61)), none⟩, ⟨(some 62), (.ext (.t 58) 0), none⟩, ⟨(some 63), (.ext (.t 58) 1), none⟩, ⟨(some 15), (.new 34 [(20, (.blob (List.replicate 20 (.int .u8 0)))), (1, (.con (.slice none 0 0))), (1, (.str [])), (1, (.str [])), (1, (.int .i64 0)), (1, (.str [])), (1, (.str [])), (1, (.str [])), (1, (.int .i64 0)), (1, (.str [])), (1, (.con (.slice none 0 0))), (1, (.str []))]), none⟩, ⟨none, (.st (.st 31) (.t 15) (.t 62)), none⟩, ⟨(some 16), (.mv (.t 63)), none⟩]) (.seq (.seq (.reg (some [(0, true), (1, true), (2, true), (3, true), (4, true), (5, true), (6, true), (7, false), (8, false), (8, false), (10, false), (11, false), (8, false), (13, false), (14, false), (15, false), (8, false), (17, true), (18, true), (19, true), (20, true), (21, true), (22, true)]) [⟨(some 64), (.mv (.t 14)), none⟩, ⟨(some 65), (.bin .eql (.t 64) (.c (.int .i64 0))), none⟩, ⟨(some 66), (.mv (.t 65)), none⟩, ⟨(some 67), (.mv (.t 16)), (some (66, true))⟩, ⟨(some 68), (.bin .eql (.t 67) (.c (.int .i64 0))), (some (66, true))⟩, ⟨(some 69), (.pick (.t 66) (.t 68) (.c (.bool false))), none⟩, ⟨(some 70), (.mv (.t 69)), none⟩, ⟨(some 71), (.ld (.st 31) (.t 13)), (some (70, true))⟩, ⟨(some 72), (.call 10 [(.t 71)]), (some (70, true))⟩, ⟨(some 73), (.ld (.st 31) (.t 15)), (some (70, true))⟩, ⟨(some 74), (.call 10 [(.t 73)]), (some (70, true))⟩, ⟨(some 75), (.call 17 [(.t 72), (.t 74)]), (some (70, true))⟩, ⟨(some 76), (.ld (.st 26) (.t 6)), (some (70, true))⟩, ⟨(some 77), (.call 18 [(.t 76)]), (some (70, true))⟩, ⟨(some 78), (.call 15 [(.t 77)]), (some (70, true))⟩, ⟨(some 79), (.call 21 [(.t 78)]), (some (70, true))⟩, ⟨(some 80), (.ld (.st 26) (.t 7)), (some (70, true))⟩, ⟨(some 81), (.call 18 [(.t 80)]), (some (70, true))⟩, ⟨(some 82), (.call 15 [(.t 81)]), (some (70, true))⟩, ⟨(some 83), (.call 21 [(.t 82)]), (some (70, true))⟩, ⟨(some 84), (.call 14 [(.t 79), (.t 83)]), (some (70, true))⟩, ⟨(some 85), (.eqB true (.t 75) (.t 84)), (some (70, true))⟩, ⟨(some 86), (.pick (.t 70) (.t 85) (.c (.bool false))), none⟩]) (.cond (.t 86) (.seq (.reg none [⟨(some 8), (.mv (.c (.bool false))), none⟩]) .ret) .skip)) (.seq (.reg none [⟨(some 87), (.call 13 []), none⟩, ⟨(some 8), (.mv (.t 87)), none⟩]) .ret))))
def c_tlapt : ACode := (.seq (.reg none [⟨(some 4), (.box 28 31 (.t 0)), none⟩, ⟨(some 5), (.box 28 31 (.t 1)), none⟩, ⟨(some 6), (.box 49 26 (.t 2)), none⟩, ⟨(some 7), (.box 49 26 (.t 3)), none⟩, ⟨(some 8), (.mv (.c (.bool false))), none⟩]) (.seq (.reg none [⟨(some 18), (.ld (.st 31) (.t 4)), none⟩, ⟨(some 19), (.call 9 [(.t 18)]), none⟩, ⟨(some 20), (.call 11 [(.t 19)]), none⟩, ⟨(some 17), (.mv (.t 20)), none⟩, ⟨(some 21), (.ext (.t 17) 0), none⟩, ⟨(some 22), (.ext (.t 17) 1), none⟩, ⟨(some 9), (.new 40 [(20, (.blob (List.replicate 20 (.int .u8 0)))), (1, (.str [])), (1, (.int .i64 0)), (1, (.int .i64 0)), (1, (.con (.slice none 0 0))), (1, (.con (.slice none 0 0))), (1, (.str []))]), none⟩, ⟨none, (.st (.st 26) (.t 9) (.t 21)), none⟩, ⟨(some 10), (.mv (.t 22)), none⟩]) (.seq (.reg none [⟨(some 24), (.ld (.st 31) (.t 5)), none⟩, ⟨(some 25), (.call 9 [(.t 24)]), none⟩, ⟨(some 26), (.call 11 [(.t 25)]), none⟩, ⟨(some 23), (.mv (.t 26)), none⟩, ⟨(some 27), (.ext (.t 23) 0), none⟩, ⟨(some 28), (.ext (.t 23) 1), none⟩, ⟨(some 11), (.new 40 [(20, (.blob (List.replicate 20 (.int .u8 0)))), (1, (.str [])), (1, (.int .i64 0)), (1, (.int .i64 0)), (1, (.con (.slice none 0 0))), (1, (.con (.slice none 0 0))), (1, (.str []))]), none⟩, ⟨none, (.st (.st 26) (.t 11) (.t 27)), none⟩, ⟨(some 12), (.mv (.t 28)), none⟩]) (.seq (.seq (.reg (some [(0, true), (1, true), (2, true), (3, true), (4, true), (5, true), (6, true), (7, false), (8, false), (8, false), (10, false), (11, false), (8, false), (13, false), (14, false), (15, false), (8, false), (17, true), (18, true), (19, true), (20, true), (21, true), (22, true)]) [⟨(some 29), (.mv (.t 10)), none⟩, ⟨(some 30), (.bin .eql (.t 29) (.c (.int .i64 0))), none⟩, ⟨(some 31), (.mv (.t 30)), none⟩, ⟨(some 32), (.mv (.t 12)), (some (31, true))⟩, ⟨(some 33), (.bin .eql (.t 32) (.c (.int .i64 0))), (some (31, true))⟩, ⟨(some 34), (.pick (.t 31) (.t 33) (.c (.bool false))), none⟩, ⟨(some 35), (.mv (.t 34)), none⟩, ⟨(some 36), (.ld (.st 26) (.t 9)), (some (35, true))⟩, ⟨(some 37), (.call 15 [(.t 36)]), (some (35, true))⟩, ⟨(some 38), (.ld (.st 26) (.t 11)), (some (35, true))⟩, ⟨(some 39), (.call 15 [(.t 38)]), (some (35, true))⟩, ⟨(some 40), (.call 14 [(.t 37), (.t 39)]), (some (35, true))⟩, ⟨(some 41), (.ld (.st 31) (.t 4)), (some (35, true))⟩, ⟨(some 42), (.call 9 [(.t 41)]), (some (35, true))⟩, ⟨(some 43), (.call 10 [(.t 42)]), (some (35, true))⟩, ⟨(some 44), (.call 23 [(.t 43)]), (some (35, true))⟩, ⟨(some 45), (.ld (.st 31) (.t 5)), (some (35, true))⟩, ⟨(some 46), (.call 9 [(.t 45)]), (some (35, true))⟩, ⟨(some 47), (.call 10 [(.t 46)]), (some (35, true))⟩, ⟨(some 48), (.call 23 [(.t 47)]), (some (35, true))⟩, ⟨(some 49), (.call 17 [(.t 44), (.t 48)]), (some (35, true))⟩, ⟨(some 50), (.eqB true (.t 40) (.t 49)), (some (35, true))⟩, ⟨(some 51), (.pick (.t 35) (.t 50) (.c (.bool false))), none⟩]) (.cond (.t 51) (.seq (.reg none [⟨(some 8), (.mv (.c (.bool false))), none⟩]) .ret) .skip)) k_tlapt_4))))
def r_tlapt : List ARes := [(.t 8)]
theorem s_tlapt : slimF Tryz.prog Tryz.f8 = some (c_tlapt, r_tlapt) := by kernel_rfl
end Go.Proofs.YtgaehhechonegaaGreatDoor
namespace Go.Proofs.YtgaehhechonegaaGreatDoor
set_option linter.all false
open Go.RowKit
open Go.Lib (itoa)
theorem apart1 {a b : ComL} (ha : comB a) (hb : comB b) (ra : rightC (toC a) = true) (rb : rightC (toC b) = true) :
    sameH ((obF 10000).1 (aloneC (toC a))) ((obF 10000).1 (aloneC (toC b))) = sameC (aloneC (toC a)) (aloneC (toC b)) := by
  have h1 := (of_tcom a ha ra).2
  have h2 := (of_tcom b hb rb).2
  rw [Bool.eq_iff_iff, sameH_iff, sameC_iff]
  exact ⟨fun h => by rw [← h1, h, h2], fun h => by rw [h]⟩
theorem apart2 {c d : ChgL} (hc : chgB9 c) (hd : chgB9 d) (rc : rightH (ownH (toH c)) = true) (rd : rightH (ownH (toH d)) = true) :
    sameC ((obF 10000).2 (ownH (toH c))) ((obF 10000).2 (ownH (toH d))) = sameH (ownH (toH c)) (ownH (toH d)) := by
  have h1 := (bk_tchg c hc rc).2
  have h2 := (bk_tchg d hd rd).2
  rw [Bool.eq_iff_iff, sameH_iff, sameC_iff]
  exact ⟨fun h => by rw [← h1, h, h2], fun h => by rw [h]⟩
noncomputable def phiTP : Phi := phiL [(9, [], ltoZ), (11, [], tchgS 10000), (10, [], lofZ), (15, [], lgofZ), (14, [], rgsameS), (23, [], raloneS), (17, [], rsameS), (18, [], lgtoZ), (19, [], tcomS 10000), (21, [], rownS), (13, [], tknownS)]
theorem phiTP_ok : PhiOk Tryz.prog phiTP := phi_cons ltoZ_ok (by kernel_rfl) (phi_cons (tchg_ok 10000) (by kernel_rfl) (phi_cons lofZ_ok (by kernel_rfl) (phi_cons lgofZ_ok (by kernel_rfl) (phi_cons rgsame_ok (by kernel_rfl) (phi_cons ralone_ok (by kernel_rfl) (phi_cons rsame_ok (by kernel_rfl) (phi_cons lgtoZ_ok (by kernel_rfl) (phi_cons (tcom_ok 10000) (by kernel_rfl) (phi_cons rown_ok (by kernel_rfl) (phi_cons tknown_ok (by kernel_rfl) phi_nil))))))))))
theorem phiTP_1 : phiTP 9 = some ([], ltoZ) := rfl
theorem phiTP_2 : phiTP 11 = some ([], tchgS 10000) := rfl
theorem phiTP_3 : phiTP 10 = some ([], lofZ) := rfl
theorem phiTP_4 : phiTP 15 = some ([], lgofZ) := rfl
theorem phiTP_5 : phiTP 14 = some ([], rgsameS) := rfl
theorem phiTP_6 : phiTP 23 = some ([], raloneS) := rfl
theorem phiTP_7 : phiTP 17 = some ([], rsameS) := rfl
theorem phiTP_8 : phiTP 18 = some ([], lgtoZ) := rfl
theorem phiTP_9 : phiTP 19 = some ([], tcomS 10000) := rfl
theorem phiTP_10 : phiTP 21 = some ([], rownS) := rfl
theorem phiTP_11 : phiTP 13 = some ([], tknownS) := rfl
theorem tchg_cases (c : ComL) (h : comB c) : (rightC (toC c) = false ∧ ∀ z pr, tchgR 10000 (toC c) z pr = some ⟨.tup [z, .int .i64 4], [], pr⟩) ∨
    ∃ u t z e d, rightC (toC c) = true ∧ (obF 10000).1 (aloneC (toC c)) = ⟨zr20, u, t, z, e, [], d⟩ ∧ e.length ≤ 10001 ∧
      ∀ z' pr, tchgR 10000 (toC c) z' pr = some ⟨.tup [chgZ ⟨zr20, u, t, z, e, [], d⟩, .int .i64 0], [], pr⟩ := by
  obtain ⟨y1, y2⟩ := toC_sz c h
  cases hr : rightC (toC c) with
  | false => exact .inl ⟨rfl, fun z pr => by unfold tchgR; rw [hr]; rfl⟩
  | true =>
    obtain ⟨o1, o2, o3⟩ := of_right 10000 (c := aloneC (toC c)) hr
    have o4 := ofx_len 10000 (c := aloneC (toC c)) hr
    obtain ⟨⟨ym, yu, yt, yz, ye, yf, yd⟩, hy⟩ : ∃ y, (obF 10000).1 (aloneC (toC c)) = y := ⟨_, rfl⟩
    rw [hy] at o2 o3 o4
    simp only at o2 o3 o4
    subst o2; subst o3
    have o5 : mz (aloneC (toC c)).extras ≤ 10000 := y2
    exact .inr ⟨yu, yt, yz, ye, yd, rfl, hy, by omega, fun z pr => by unfold tchgR; rw [hr, if_pos rfl, hy]⟩
theorem tcom_cases (c : ChgL) (h : chgB9 c) : (rightH (ownH (toH c)) = false ∧ ∀ z pr, tcomR 10000 (toH c) z pr = some ⟨.tup [z, .int .i64 4], [], pr⟩) ∨
    ∃ k an am at' az cn cm ct cz e m, rightH (ownH (toH c)) = true ∧ (obF 10000).2 (ownH (toH c)) = ⟨zr20, [], ⟨an, am, at', az⟩, ⟨cn, cm, ct, cz⟩, e, m⟩ ∧ e.length ≤ 10001 ∧
      ∀ z' pr, tcomR 10000 (toH c) z' pr = some ⟨.tup [comZ k ⟨zr20, [], ⟨an, am, at', az⟩, ⟨cn, cm, ct, cz⟩, e, m⟩, .int .i64 0], [], pr⟩ := by
  obtain ⟨y1, y2, y3⟩ := toH_sz c h
  cases hr : rightH (ownH (toH c)) with
  | false => exact .inl ⟨rfl, fun z pr => by unfold tcomR; rw [hr]; rfl⟩
  | true =>
    obtain ⟨o1, o2, o3⟩ := back_right 10000 (x := ownH (toH c)) hr
    have o4 := bkx_len 10000 (ownH (toH c))
    obtain ⟨⟨yt, yp, ⟨yan, yam, yat, yaz⟩, ⟨ycn, ycm, yct, ycz⟩, ye, ym⟩, hy⟩ : ∃ y, (obF 10000).2 (ownH (toH c)) = y := ⟨_, rfl⟩
    rw [hy] at o2 o3 o4
    simp only at o2 o3 o4
    subst o2; subst o3
    have o5 : mz (ownH (toH c)).extras ≤ 10000 := y3
    exact .inr ⟨bkK 10000 (ownH (toH c)), yan, yam, yat, yaz, ycn, ycm, yct, ycz, ye, ym, rfl, hy, by omega, fun z pr => by unfold tcomR; rw [hr, if_pos rfl, hy]⟩
def comOf (x : AV) : Option (Prop × ComL) := match x with
  | .agg [(20, .blob tA), (1, .sl kqA psA), (1, .str anA), (1, .str amA), (1, .int .i64 wtA), (1, .str azA), (1, .str cnA), (1, .str cmA), (1, .int .i64 ctA), (1, .str czA), (1, .sl keA esA), (1, .str mA)] => some (argC tA kqA psA keA esA, ⟨unV tA, psA.map unId, ⟨anA, amA, wtA, azA⟩, ⟨cnA, cmA, ctA, czA⟩, esA.map unEx, mA⟩)
  | _ => none
def chgOf (x : AV) : Option (Prop × ChgL) := match x with
  | .agg [(20, .blob hmA), (1, .str huA), (1, .int .i64 htA), (1, .int .i64 hzA), (1, .sl heA hesA), (1, .sl hfA hfsA), (1, .str hdA)] => some (argG hmA heA hesA hfA hfsA, ⟨unV hmA, huA, htA, hzA, hesA.map unEx, hfsA.map unS, hdA⟩)
  | _ => none
theorem comOf_some {x : AV} {q : Prop × ComL} (h : comOf x = some q) : ∃ tA kqA psA anA amA wtA azA cnA cmA ctA czA keA esA mA, x = .agg [(20, .blob tA), (1, .sl kqA psA), (1, .str anA), (1, .str amA), (1, .int .i64 wtA), (1, .str azA), (1, .str cnA), (1, .str cmA), (1, .int .i64 ctA), (1, .str czA), (1, .sl keA esA), (1, .str mA)] ∧ q = (argC tA kqA psA keA esA, ⟨unV tA, psA.map unId, ⟨anA, amA, wtA, azA⟩, ⟨cnA, cmA, ctA, czA⟩, esA.map unEx, mA⟩) := by
  unfold comOf at h
  split at h
  · injection h with h; exact ⟨_, _, _, _, _, _, _, _, _, _, _, _, _, _, rfl, h.symm⟩
  · cases h
theorem chgOf_some {x : AV} {q : Prop × ChgL} (h : chgOf x = some q) : ∃ hmA huA htA hzA heA hesA hfA hfsA hdA, x = .agg [(20, .blob hmA), (1, .str huA), (1, .int .i64 htA), (1, .int .i64 hzA), (1, .sl heA hesA), (1, .sl hfA hfsA), (1, .str hdA)] ∧ q = (argG hmA heA hesA hfA hfsA, ⟨unV hmA, huA, htA, hzA, hesA.map unEx, hfsA.map unS, hdA⟩) := by
  unfold chgOf at h
  split at h
  · injection h with h; exact ⟨_, _, _, _, _, _, _, _, _, rfl, h.symm⟩
  · cases h
noncomputable def tlaptS : Spec := fun xs hp => match xs, hp with
  | [a, b, c, d], [] => match comOf a, comOf b, chgOf c, chgOf d with
    | some qa, some qb, some qc, some qd => some ⟨.bool true, [], (qa.1 ∧ comB qa.2) ∧ (qb.1 ∧ comB qb.2) ∧ (qc.1 ∧ chgB9 qc.2) ∧ (qd.1 ∧ chgB9 qd.2)⟩
    | _, _, _, _ => none
  | _, _ => none
set_option maxHeartbeats 8000000 in
set_option maxRecDepth 8000 in
theorem tlapt_tail {pr : Prop} {hmA hmB : List Value} {heA heB hfA hfB : Nat} {hesA hesB hfsA hfsB : List AV} {huA hdA huB hdB : List UInt8} {htA hzA htB hzB : Int} (q3 : argG hmA heA hesA hfA hfsA) (p3 : chgB9 ⟨unV hmA, huA, htA, hzA, hesA.map unEx, hfsA.map unS, hdA⟩) (q4 : argG hmB heB hesB hfB hfsB) (p4 : chgB9 ⟨unV hmB, huB, htB, hzB, hesB.map unEx, hfsB.map unS, hdB⟩) (x0 x1 x2 x3 x4 x5 x9 x10 x11 x12 x13 x14 x15 w0 w1 w2 w3 w4 w5 w6 w7 w8 w9 w10 w11 w12 w13 w14 w15 b0 b1 b2 b3 b4 b5 b6 b7 b8 b9 b10 b11 b12 b13 b14 b15 : AV) (l2 : List AV) (o0 o1 o4 o5 : AObj) :
    awp2 phiTP 0 k_tlapt_4 (retQ2 [.t 8] 0 ⟨.bool true, [], pr⟩) ⟨[[x0, x1, x2, x3, x4, x5, .ref 2 0 0, .ref 3 0 0, .bool false, x9, x10, x11, x12, x13, x14, x15], [b0, b1, b2, b3, b4, b5, b6, b7, b8, b9, b10, b11, b12, b13, b14, b15], l2, [w0, w1, w2, w3, w4, w5, w6, w7, w8, w9, w10, w11, w12, w13, w14, w15]],
      [o0, o1, .cells 49 [(20, .blob hmA), (1, .str huA), (1, .int .i64 htA), (1, .int .i64 hzA), (1, .sl heA hesA), (1, .sl hfA hfsA), (1, .str hdA)], .cells 49 [(20, .blob hmB), (1, .str huB), (1, .int .i64 htB), (1, .int .i64 hzB), (1, .sl heB hesB), (1, .sl hfB hfsB), (1, .str hdB)], o4, o5]⟩ := by
  generalize hc : (⟨unV hmA, huA, htA, hzA, hesA.map unEx, hfsA.map unS, hdA⟩ : ChgL) = c at *
  generalize hc2 : (⟨unV hmB, huB, htB, hzB, hesB.map unEx, hfsB.map unS, hdB⟩ : ChgL) = c2 at *
  have hmx := max_of p3
  have hmx2 := max_of p4
  have z1 := (toH_size c p3).1
  have z2 := (toH_size c2 p4).1
  obtain ⟨y1, y2, y3⟩ := toH_sz c p3
  obtain ⟨v1, v2, v3⟩ := toH_sz c2 p4
  have hE := fun ra rb => apart2 p3 p4 ra rb
  have k1 := tcom_cases c p3
  have k2 := tcom_cases c2 p4
  generalize hd : toH c = d at *
  generalize hd2 : toH c2 = d2 at *
  obtain ⟨dm, du, dt, dz, de, df, dd⟩ := d
  obtain ⟨em, eu, et, ez, ee, ef, ed⟩ := d2
  obtain ⟨h1, h2, h3, h4, h5, h6, h7, h8, h9, h10, h11⟩ := z1
  obtain ⟨i1, i2, i3, i4, i5, i6, i7, i8, i9, i10, i11⟩ := z2
  simp only [ownH] at h1 h2 h3 h4 h5 h6 h7 h8 h9 h10 h11 y3 hE i1 i2 i3 i4 i5 i6 i7 i8 i9 i10 i11 v3 k1 k2
  have hmT := eq_true hmx
  have hmT2 := eq_true hmx2
  have hpT : tcomPre 10000 ⟨dm, du, dt, dz, de, df, dd⟩ = True := eq_true ⟨h1, y1, y2, y3⟩
  have hpT2 : tcomPre 10000 ⟨em, eu, et, ez, ee, ef, ed⟩ = True := eq_true ⟨i1, v1, v2, v3⟩
  rcases k1 with ⟨ra, e1⟩ | ⟨k, an, am, at', az, cn, cm, ct, cz, e, m, ra, o1, o2, e1⟩ <;> rcases k2 with ⟨rb, e2⟩ | ⟨k', an2, am2, at2, az2, cn2, cm2, ct2, cz2, e', m2, rb, p5, p6, e2⟩
  · simp only [k_tlapt_4, phiTP_8, phiTP_9, phiTP_11, lgtoZ, tcomS, tcomSz, tknownS, comPs, zComZ, who0, chgF, argG, unV_U, unEx_map, unS_map, Bool.false_eq_true, List.length_nil, hmT, hpT, hmT2, hpT2, hc, hd, hc2, hd2, e1, e2, go_sem, Nat.reduceDiv, Nat.reduceMod, ↓reduceIte, Nat.reduceSub, Nat.reduceLT, Nat.reduceAdd, Nat.reduceLeDiff, reduceCtorEq, Int.reduceEq]
    (repeat' apply And.intro); all_goals first | exact q3.1 | exact q3.2.1 | exact q3.2.2.1 | exact q3.2.2.2.1 | exact q3.2.2.2.2 | exact q4.1 | exact q4.2.1 | exact q4.2.2.1 | exact q4.2.2.2.1 | exact q4.2.2.2.2 | exact h1 | exact i1 | exact .inl trivial | exact .inr trivial | exact .inr rfl | omega | exact h6 | exact i6 | rfl | trivial | (intro p hp; cases hp; done) | skip
  · simp only [k_tlapt_4, phiTP_8, phiTP_9, phiTP_11, lgtoZ, tcomS, tcomSz, tknownS, comZ, comPs, zComZ, who0, chgF, argG, unV_U, unEx_map, unS_map, Bool.false_eq_true, List.length_nil, hmT, hpT, hmT2, hpT2, hc, hd, hc2, hd2, e1, e2, go_sem, Nat.reduceDiv, Nat.reduceMod, ↓reduceIte, Nat.reduceSub, Nat.reduceLT, Nat.reduceAdd, Nat.reduceLeDiff, reduceCtorEq, Int.reduceEq]
    (repeat' apply And.intro); all_goals first | exact q3.1 | exact q3.2.1 | exact q3.2.2.1 | exact q3.2.2.2.1 | exact q3.2.2.2.2 | exact q4.1 | exact q4.2.1 | exact q4.2.2.1 | exact q4.2.2.2.1 | exact q4.2.2.2.2 | exact h1 | exact i1 | exact .inl trivial | exact .inr trivial | exact .inr rfl | omega | exact h6 | exact i6 | rfl | trivial | (intro p hp; cases hp; done) | skip
  · simp only [k_tlapt_4, phiTP_8, phiTP_9, phiTP_11, lgtoZ, tcomS, tcomSz, tknownS, comZ, comPs, zComZ, who0, chgF, argG, unV_U, unEx_map, unS_map, Bool.false_eq_true, List.length_nil, hmT, hpT, hmT2, hpT2, hc, hd, hc2, hd2, e1, e2, go_sem, Nat.reduceDiv, Nat.reduceMod, ↓reduceIte, Nat.reduceSub, Nat.reduceLT, Nat.reduceAdd, Nat.reduceLeDiff, reduceCtorEq, Int.reduceEq]
    (repeat' apply And.intro); all_goals first | exact q3.1 | exact q3.2.1 | exact q3.2.2.1 | exact q3.2.2.2.1 | exact q3.2.2.2.2 | exact q4.1 | exact q4.2.1 | exact q4.2.2.1 | exact q4.2.2.2.1 | exact q4.2.2.2.2 | exact h1 | exact i1 | exact .inl trivial | exact .inr trivial | exact .inr rfl | omega | exact h6 | exact i6 | rfl | trivial | (intro p hp; cases hp; done) | skip
  · have hE := hE ra rb
    rw [o1, p5] at hE
    simp only [k_tlapt_4, phiTP_3, phiTP_4, phiTP_5, phiTP_7, phiTP_8, phiTP_9, phiTP_10, phiTP_11, lofZ, lgtoZ, tcomS, tcomSz, rownS, rsameS, tknownS, lgofZ, rgsameS, comZ, comPs, zComZ, who0, chgF, argC, argG, argS7, unV_U, unEx_map, unS_map, zr_len, Bool.false_eq_true, List.length_map, List.map_nil, List.length_nil, hmT, hpT, hmT2, hpT2, hc, hd, hc2, hd2, e1, e2, hE, go_sem, Nat.reduceDiv, Nat.reduceMod, ↓reduceIte, Nat.reduceSub, Nat.reduceLT, Nat.reduceAdd, Nat.reduceLeDiff, reduceCtorEq]
    (repeat' apply And.intro); all_goals first | exact q3.1 | exact q3.2.1 | exact q3.2.2.1 | exact q3.2.2.2.1 | exact q3.2.2.2.2 | exact q4.1 | exact q4.2.1 | exact q4.2.2.1 | exact q4.2.2.2.1 | exact q4.2.2.2.2 | exact h1 | exact i1 | exact .inl trivial | exact .inr trivial | exact .inr rfl | omega | exact h6 | exact i6 | rfl | trivial | (intro p hp; cases hp; done) | skip
set_option maxHeartbeats 8000000 in
set_option maxRecDepth 8000 in
theorem tlapt_go {pr : Prop} {tA tB hmA hmB : List Value} {kqA kqB keA keB heA heB hfA hfB : Nat} {psA psB esA esB hesA hesB hfsA hfsB : List AV} {anA amA azA cnA cmA czA mA anB amB azB cnB cmB czB mB huA hdA huB hdB : List UInt8} {wtA ctA wtB ctB htA hzA htB hzB : Int} (q1 : argC tA kqA psA keA esA) (p1 : comB ⟨unV tA, psA.map unId, ⟨anA, amA, wtA, azA⟩, ⟨cnA, cmA, ctA, czA⟩, esA.map unEx, mA⟩) (q2 : argC tB kqB psB keB esB) (p2 : comB ⟨unV tB, psB.map unId, ⟨anB, amB, wtB, azB⟩, ⟨cnB, cmB, ctB, czB⟩, esB.map unEx, mB⟩) (q3 : argG hmA heA hesA hfA hfsA) (p3 : chgB9 ⟨unV hmA, huA, htA, hzA, hesA.map unEx, hfsA.map unS, hdA⟩) (q4 : argG hmB heB hesB hfB hfsB) (p4 : chgB9 ⟨unV hmB, huB, htB, hzB, hesB.map unEx, hfsB.map unS, hdB⟩) :
    awp2 phiTP 0 c_tlapt (retQ2 r_tlapt 0 ⟨.bool true, [], pr⟩) (ofS ⟨slots 0 [.agg [(20, .blob tA), (1, .sl kqA psA), (1, .str anA), (1, .str amA), (1, .int .i64 wtA), (1, .str azA), (1, .str cnA), (1, .str cmA), (1, .int .i64 ctA), (1, .str czA), (1, .sl keA esA), (1, .str mA)], .agg [(20, .blob tB), (1, .sl kqB psB), (1, .str anB), (1, .str amB), (1, .int .i64 wtB), (1, .str azB), (1, .str cnB), (1, .str cmB), (1, .int .i64 ctB), (1, .str czB), (1, .sl keB esB), (1, .str mB)], .agg [(20, .blob hmA), (1, .str huA), (1, .int .i64 htA), (1, .int .i64 hzA), (1, .sl heA hesA), (1, .sl hfA hfsA), (1, .str hdA)], .agg [(20, .blob hmB), (1, .str huB), (1, .int .i64 htB), (1, .int .i64 hzB), (1, .sl heB hesB), (1, .sl hfB hfsB), (1, .str hdB)]], []⟩) := by
    generalize hc : (⟨unV tA, psA.map unId, ⟨anA, amA, wtA, azA⟩, ⟨cnA, cmA, ctA, czA⟩, esA.map unEx, mA⟩ : ComL) = c at *
    generalize hc2 : (⟨unV tB, psB.map unId, ⟨anB, amB, wtB, azB⟩, ⟨cnB, cmB, ctB, czB⟩, esB.map unEx, mB⟩ : ComL) = c2 at *
    have hmx : maxC c := by
      obtain ⟨h1, h2, h3, ⟨h4, h5, h6, h7⟩, ⟨h8, h9, h10, h11⟩, h12, h13, h14⟩ := p1
      exact ⟨h1, h2, h3, ⟨h4, h5, h6⟩, ⟨h8, h9, h10⟩, h12, h13, h14⟩
    have hmx2 : maxC c2 := by
      obtain ⟨h1, h2, h3, ⟨h4, h5, h6, h7⟩, ⟨h8, h9, h10, h11⟩, h12, h13, h14⟩ := p2
      exact ⟨h1, h2, h3, ⟨h4, h5, h6⟩, ⟨h8, h9, h10⟩, h12, h13, h14⟩
    have z1 := (toC_size c p1).1
    have z2 := (toC_size c2 p2).1
    obtain ⟨y1, y2⟩ := toC_sz c p1
    obtain ⟨y3, y4⟩ := toC_sz c2 p2
    have l1 := toC_len c p1
    have l2 := toC_len c2 p2
    have hA := alone_size c p1
    have hE := fun ra rb => apart1 p1 p2 ra rb
    have k1 := tchg_cases c p1
    have k2 := tchg_cases c2 p2
    generalize hd : toC c = d at *
    generalize hd2 : toC c2 = d2 at *
    obtain ⟨dt, dp, ⟨dan, dam, dat, daz⟩, ⟨dcn, dcm, dct, dcz⟩, de, dm⟩ := d
    obtain ⟨et, ep, ⟨ean, eam, eat, eaz⟩, ⟨ecn, ecm, ect, ecz⟩, ee, em⟩ := d2
    simp only at l1 l2 y2 y4
    obtain ⟨h1, h2, h3, h4, h5, h6, h7, h8, h9, h10⟩ := l1
    obtain ⟨i1, i2, i3, i4, i5, i6, i7, i8, i9, i10⟩ := l2
    have hmT := eq_true hmx
    have hmT2 := eq_true hmx2
    have hpT : tchgPre 10000 ⟨dt, dp, ⟨dan, dam, dat, daz⟩, ⟨dcn, dcm, dct, dcz⟩, de, dm⟩ = True := eq_true ⟨z1, y1, y2⟩
    have hpT2 : tchgPre 10000 ⟨et, ep, ⟨ean, eam, eat, eaz⟩, ⟨ecn, ecm, ect, ecz⟩, ee, em⟩ = True := eq_true ⟨z2, y3, y4⟩
    obtain ⟨G, hG⟩ : ∃ G, G = awp2 phiTP 0 k_tlapt_4 (retQ2 [.t 8] 0 ⟨.bool true, [], pr⟩) := ⟨_, rfl⟩
    have tail : ∀ (x0 x1 x2 x3 x4 x5 x9 x10 x11 x12 x13 x14 x15 w0 w1 w2 w3 w4 w5 w6 w7 w8 w9 w10 w11 w12 w13 w14 w15 b0 b1 b2 b3 b4 b5 b6 b7 b8 b9 b10 b11 b12 b13 b14 b15 : AV) (l2 : List AV) (o0 o1 o4 o5 : AObj), G ⟨[[x0, x1, x2, x3, x4, x5, .ref 2 0 0, .ref 3 0 0, .bool false, x9, x10, x11, x12, x13, x14, x15], [b0, b1, b2, b3, b4, b5, b6, b7, b8, b9, b10, b11, b12, b13, b14, b15], l2, [w0, w1, w2, w3, w4, w5, w6, w7, w8, w9, w10, w11, w12, w13, w14, w15]],
      [o0, o1, .cells 49 [(20, .blob hmA), (1, .str huA), (1, .int .i64 htA), (1, .int .i64 hzA), (1, .sl heA hesA), (1, .sl hfA hfsA), (1, .str hdA)], .cells 49 [(20, .blob hmB), (1, .str huB), (1, .int .i64 htB), (1, .int .i64 hzB), (1, .sl heB hesB), (1, .sl hfB hfsB), (1, .str hdB)], o4, o5]⟩ := fun x0 x1 x2 x3 x4 x5 x9 x10 x11 x12 x13 x14 x15 w0 w1 w2 w3 w4 w5 w6 w7 w8 w9 w10 w11 w12 w13 w14 w15 b0 b1 b2 b3 b4 b5 b6 b7 b8 b9 b10 b11 b12 b13 b14 b15 l2 o0 o1 o4 o5 => by
      rw [hG]
      exact tlapt_tail q3 p3 q4 p4 x0 x1 x2 x3 x4 x5 x9 x10 x11 x12 x13 x14 x15 w0 w1 w2 w3 w4 w5 w6 w7 w8 w9 w10 w11 w12 w13 w14 w15 b0 b1 b2 b3 b4 b5 b6 b7 b8 b9 b10 b11 b12 b13 b14 b15 l2 o0 o1 o4 o5
    rcases k1 with ⟨ra, e1⟩ | ⟨u, t', z, e, d', ra, o1, o2, e1⟩ <;> rcases k2 with ⟨rb, e2⟩ | ⟨u2, t2', z2', e', d2', rb, p5, p6, e2⟩
    · simp only [c_tlapt, r_tlapt, phiTP_1, phiTP_2, ltoZ, tchgS, tchgSz, comZ, comPs, zChgZ, argC, unV_U, unId_map, unEx_map, Bool.false_eq_true, List.length_nil, hmT, hpT, hmT2, hpT2, hc, hd, hc2, hd2, ← hG, e1, e2, go_sem, Nat.reduceDiv, Nat.reduceMod, ↓reduceIte, Nat.reduceSub, Nat.reduceLT, Nat.reduceAdd, Nat.reduceLeDiff, reduceCtorEq, Int.reduceEq]
      (repeat' apply And.intro); all_goals first | exact q1.1 | exact q1.2.1 | exact q1.2.2.1 | exact q1.2.2.2.1 | exact q1.2.2.2.2 | exact q2.1 | exact q2.2.1 | exact q2.2.2.1 | exact q2.2.2.2.1 | exact q2.2.2.2.2 | exact h1 | exact h2 | exact i1 | exact i2 | exact .inl trivial | exact .inr trivial | exact .inr rfl | omega | rfl | trivial | (intro p hp; cases hp; done) | exact tail _ _ _ _ _ _ _ _ _ _ _ _ _ _ _ _ _ _ _ _ _ _ _ _ _ _ _ _ _ _ _ _ _ _ _ _ _ _ _ _ _ _ _ _ _ _ _ _ _ _ | skip
    · simp only [c_tlapt, r_tlapt, phiTP_1, phiTP_2, ltoZ, tchgS, tchgSz, comZ, comPs, chgZ, zChgZ, argC, unV_U, unId_map, unEx_map, Bool.false_eq_true, List.length_nil, hmT, hpT, hmT2, hpT2, hc, hd, hc2, hd2, ← hG, e1, e2, go_sem, Nat.reduceDiv, Nat.reduceMod, ↓reduceIte, Nat.reduceSub, Nat.reduceLT, Nat.reduceAdd, Nat.reduceLeDiff, reduceCtorEq, Int.reduceEq]
      (repeat' apply And.intro); all_goals first | exact q1.1 | exact q1.2.1 | exact q1.2.2.1 | exact q1.2.2.2.1 | exact q1.2.2.2.2 | exact q2.1 | exact q2.2.1 | exact q2.2.2.1 | exact q2.2.2.2.1 | exact q2.2.2.2.2 | exact h1 | exact h2 | exact i1 | exact i2 | exact .inl trivial | exact .inr trivial | exact .inr rfl | omega | rfl | trivial | (intro p hp; cases hp; done) | exact tail _ _ _ _ _ _ _ _ _ _ _ _ _ _ _ _ _ _ _ _ _ _ _ _ _ _ _ _ _ _ _ _ _ _ _ _ _ _ _ _ _ _ _ _ _ _ _ _ _ _ | skip
    · simp only [c_tlapt, r_tlapt, phiTP_1, phiTP_2, ltoZ, tchgS, tchgSz, comZ, comPs, chgZ, zChgZ, argC, unV_U, unId_map, unEx_map, Bool.false_eq_true, List.length_nil, hmT, hpT, hmT2, hpT2, hc, hd, hc2, hd2, ← hG, e1, e2, go_sem, Nat.reduceDiv, Nat.reduceMod, ↓reduceIte, Nat.reduceSub, Nat.reduceLT, Nat.reduceAdd, Nat.reduceLeDiff, reduceCtorEq, Int.reduceEq]
      (repeat' apply And.intro); all_goals first | exact q1.1 | exact q1.2.1 | exact q1.2.2.1 | exact q1.2.2.2.1 | exact q1.2.2.2.2 | exact q2.1 | exact q2.2.1 | exact q2.2.2.1 | exact q2.2.2.2.1 | exact q2.2.2.2.2 | exact h1 | exact h2 | exact i1 | exact i2 | exact .inl trivial | exact .inr trivial | exact .inr rfl | omega | rfl | trivial | (intro p hp; cases hp; done) | exact tail _ _ _ _ _ _ _ _ _ _ _ _ _ _ _ _ _ _ _ _ _ _ _ _ _ _ _ _ _ _ _ _ _ _ _ _ _ _ _ _ _ _ _ _ _ _ _ _ _ _ | skip
    · have hE := hE ra rb
      rw [o1, p5] at hE
      simp only [aloneC] at hE
      simp only [c_tlapt, r_tlapt, phiTP_1, phiTP_2, phiTP_3, phiTP_4, phiTP_5, phiTP_6, phiTP_7, ltoZ, lofZ, tchgS, tchgSz, raloneS, rsameS, lgofZ, rgsameS, comZ, comPs, chgF, chgZ, zChgZ, argC, argG, argS7, unV_U, unId_map, unEx_map, zr_len, Bool.false_eq_true, List.length_map, List.map_nil, List.length_nil, hmT, hpT, hmT2, hpT2, hc, hd, hc2, hd2, ← hG, e1, e2, hE, go_sem, Nat.reduceDiv, Nat.reduceMod, ↓reduceIte, Nat.reduceEqDiff, Nat.reduceSub, Nat.reduceLT, Nat.reduceAdd, Nat.reduceLeDiff, reduceCtorEq]
      (repeat' apply And.intro); all_goals first | exact q1.1 | exact q1.2.1 | exact q1.2.2.1 | exact q1.2.2.2.1 | exact q1.2.2.2.2 | exact q2.1 | exact q2.2.1 | exact q2.2.2.1 | exact q2.2.2.2.1 | exact q2.2.2.2.2 | exact h1 | exact h2 | exact i1 | exact i2 | exact .inl trivial | exact .inr trivial | exact .inr rfl | omega | rfl | trivial | (intro p hp; cases hp; done) | exact tail _ _ _ _ _ _ _ _ _ _ _ _ _ _ _ _ _ _ _ _ _ _ _ _ _ _ _ _ _ _ _ _ _ _ _ _ _ _ _ _ _ _ _ _ _ _ _ _ _ _ | skip
set_option maxRecDepth 8000 in
theorem tlapt_ok : FnOk Tryz.prog 8 tlaptS := by
  refine fn_slim2 Tryz.func8 s_tlapt phiTP_ok ?_
  intro xs hp r hs hp'
  unfold tlaptS at hs
  split at hs
  · rename_i a b cc dd
    split at hs
    · rename_i qa qb qc qd e5 e6 e7 e8
      injection hs with hs; subst hs
      obtain ⟨tA, kqA, psA, anA, amA, wtA, azA, cnA, cmA, ctA, czA, keA, esA, mA, rfl, rfl⟩ := comOf_some e5
      obtain ⟨tB, kqB, psB, anB, amB, wtB, azB, cnB, cmB, ctB, czB, keB, esB, mB, rfl, rfl⟩ := comOf_some e6
      obtain ⟨hmA, huA, htA, hzA, heA, hesA, hfA, hfsA, hdA, rfl, rfl⟩ := chgOf_some e7
      obtain ⟨hmB, huB, htB, hzB, heB, hesB, hfB, hfsB, hdB, rfl, rfl⟩ := chgOf_some e8
      obtain ⟨⟨q1, p1⟩, ⟨q2, p2⟩, ⟨q3, p3⟩, ⟨q4, p4⟩⟩ := hp'
      exact ⟨len_le (by kernel_rfl), tlapt_go q1 p1 q2 p2 q3 p3 q4 p4⟩
    · cases hs
  · cases hs
theorem transApart_walk {v0 v1 v2 v3 : Value} (w : World) (w0 : ComArg w v0) (w1 : ComArg w v1) (w2 : ChgArg w v2) (w3 : ChgArg w v3) (g : GlobOk w (fun b => b < w.heap.size)) :
    Calls Tryz.prog 8 #[v0, v1, v2, v3] w fun e w' => e = .returned (.bool true) ∧ Below w.heap.size w w' := by
  obtain ⟨a, ha, pa⟩ := w0
  obtain ⟨b, hb, pb⟩ := w1
  obtain ⟨c, hc, pc⟩ := w2
  obtain ⟨d, hd, pd⟩ := w3
  have k1 : ∀ c : ComL, comB c → argC (c.tree.map U) 20 (c.parents.map idAV) 2 (c.extras.map exV) ∧ comB ⟨unV (c.tree.map U), (c.parents.map idAV).map unId, c.author, c.committer, (c.extras.map exV).map unEx, c.message⟩ := fun c h =>
    ⟨⟨by rw [unV_U], by rw [unId_map], by rw [unEx_map], .inl rfl, .inl rfl⟩, by rw [unV_U, unId_map, unEx_map]; exact h⟩
  have k2 : ∀ c : ChgL, chgB9 c → argG (c.man.map U) 2 (c.extras.map exV) 1 (c.files.map AV.str) ∧ chgB9 ⟨unV (c.man.map U), c.user, c.time, c.zone, (c.extras.map exV).map unEx, (c.files.map AV.str).map unS, c.desc⟩ := fun c h =>
    ⟨⟨by rw [unV_U], by rw [unEx_map], by rw [unS_map], .inl rfl, rfl⟩, by rw [unV_U, unEx_map, unS_map]; exact h⟩
  exact tlapt_ok.calls_bool (xs := [comAV a, comAV b, chgAV c, chgAV d]) rfl ⟨k1 a pa, k1 b pb, k2 c pc, k2 d pd⟩ rfl
    (args_cons (ha _) (args_cons (hb _) (args_cons (hc _) (args_cons (hd _) (args_nil g)))))
end Go.Proofs.YtgaehhechonegaaGreatDoor
namespace Go.Proofs.YtgaehhechonegaaGreatDoor
set_option linter.all false
open Go.ChangeShapes Go.WideShapes Go.ChangeAt Go.RowKit
set_option linter.unusedVariables false
theorem transApart_own : ownKnob Tryz.prog.godebug = none := by kernel_rfl
theorem transApart_laid : laidOutB Tryz.prog = true := by kernel_rfl
set_option maxRecDepth 100000 in
theorem transApart_lifted (os : Os) (started : os.Started) (H : Type) (enc : TypeId × Value → H) :
    ReturnsInHanded {} Tryz.checked os 8 .any (fun w args => (Rows.transApartSpec.pre enc Tryz.prog Tryz.f8 Rows.transApartRow.domain false w args ∧ laidMetH Tryz.prog Rows.transApartRow.laid w) ∧ sizedMet enc Tryz.prog Tryz.f8 (OpenSpec.ofChange Rows.transApartSpec) false w args)
      (Rows.transApartSpec.post enc Tryz.prog Tryz.f8 false true false false) := by
  refine returns_shaped (C := Tryz.checked) (X := fun w _ => laidMetH Tryz.prog Rows.transApartRow.laid w) (fun _ _ _ hh h => h.of_heap hh) transApart_own started (by kernel_rfl) Tryz.func8
    (ChangeSpec.witness_shaped (enc := enc) (C := Tryz.checked) (os := os) (X := fun w _ => laidMetH Tryz.prog Rows.transApartRow.laid w) false (World.laidAll Tryz.prog os Rows.transApartRow.laid) #[.agg (List.append (α := Value) (List.replicate 20 (.int .u8 0)) [.slice none 0 0, .string ⟨#[]⟩, .string ⟨#[]⟩, .int .i64 0, .string ⟨#[]⟩, .string ⟨#[]⟩, .string ⟨#[]⟩, .int .i64 0, .string ⟨#[]⟩, .slice none 0 0, .string ⟨#[]⟩]).toArray, .agg (List.append (α := Value) (List.replicate 20 (.int .u8 0)) [.slice none 0 0, .string ⟨#[]⟩, .string ⟨#[]⟩, .int .i64 0, .string ⟨#[]⟩, .string ⟨#[]⟩, .string ⟨#[]⟩, .int .i64 0, .string ⟨#[]⟩, .slice none 0 0, .string ⟨#[]⟩]).toArray, .agg (List.append (α := Value) (List.replicate 20 (.int .u8 0)) [.string ⟨#[]⟩, .int .i64 0, .int .i64 0, .slice none 0 0, .slice none 0 0, .string ⟨#[]⟩]).toArray, .agg (List.append (α := Value) (List.replicate 20 (.int .u8 0)) [.string ⟨#[]⟩, .int .i64 0, .int .i64 0, .slice none 0 0, .slice none 0 0, .string ⟨#[]⟩]).toArray] 8 (World.laidAll_os _ _ _) (World.shaped_of_ZipB (by kernel_rfl) (by kernel_rfl)) (by kernel_rfl) (by kernel_rfl) (by kernel_rfl) (by rw [MakeChecks.laidMetH_plain _ _ _ (by kernel_rfl)]; exact laidMet_laidAll _ (by kernel_rfl) (by kernel_rfl))) ?_
  intro W base args ds gs before hval0 hW hL hsh
  have hval : ∀ (j : Nat) t v, Tryz.f8.params[j]? = some t → args[j]? = some v → Value.okWide Tryz.prog W .any base t v := hval0
  have hW' := hW
  obtain ⟨p, q, hA0, hV, rfl, hfz, hnd⟩ := hW
  have hA : DataW.TrodAll enc Tryz.prog W 0 (fun _ => true) true Tryz.f8.params.toList args.toList ds p := hA0
  rw [Tryz.params8] at hA hval
  obtain ⟨v0, vs0, d0, ds0, p0, q0, hargs, rfl, rfl, h0, r0⟩ := trodAll_cons hA
  obtain ⟨v1, vs1, d1, ds1, p1, q1, rfl, rfl, rfl, h1, r1⟩ := trodAll_cons r0
  obtain ⟨v2, vs2, d2, ds2, p2, q2, rfl, rfl, rfl, h2, r2⟩ := trodAll_cons r1
  obtain ⟨v3, vs3, d3, ds3, p3, q3, rfl, rfl, rfl, h3, r3⟩ := trodAll_cons r2
  obtain ⟨rfl, rfl, rfl⟩ := trodAll_nil r3
  obtain rfl : args = #[v0, v1, v2, v3] := by cases args; simp_all
  obtain ⟨rfl, rfl⟩ := trodVars_none hV
  have g0 := h0
  have lt0 : ∀ x ∈ p0, x.block < W.heap.size := by obtain ⟨m, hm⟩ := g0; exact DataW.trod_lt m _ _ _ hm
  have w0 : ComArg W v0 := open_com Tryz.underlying28 rfl rfl rfl rfl rfl rfl rfl rfl rfl rfl rfl Tryz.underlying22 Tryz.underlying5 Tryz.underlying23 Tryz.underlying26 Tryz.underlying65 rfl rfl Tryz.underlying25 rfl rfl rfl rfl Tryz.underlying9 Tryz.underlying9 Tryz.underlying9 Tryz.underlying9 Tryz.underlying9 Tryz.underlying3 Tryz.underlying9 (by kernel_rfl) (by kernel_rfl) (by kernel_rfl) (by kernel_rfl) (by kernel_rfl) (by kernel_rfl) (by kernel_rfl) (by kernel_rfl) (by kernel_rfl) (by kernel_rfl) (by kernel_rfl) (by kernel_rfl) (by kernel_rfl) (by kernel_rfl) (hval 0 28 v0 rfl rfl) h0
  have g1 := h1
  have lt1 : ∀ x ∈ p1, x.block < W.heap.size := by obtain ⟨m, hm⟩ := g1; exact DataW.trod_lt m _ _ _ hm
  have w1 : ComArg W v1 := open_com Tryz.underlying28 rfl rfl rfl rfl rfl rfl rfl rfl rfl rfl rfl Tryz.underlying22 Tryz.underlying5 Tryz.underlying23 Tryz.underlying26 Tryz.underlying65 rfl rfl Tryz.underlying25 rfl rfl rfl rfl Tryz.underlying9 Tryz.underlying9 Tryz.underlying9 Tryz.underlying9 Tryz.underlying9 Tryz.underlying3 Tryz.underlying9 (by kernel_rfl) (by kernel_rfl) (by kernel_rfl) (by kernel_rfl) (by kernel_rfl) (by kernel_rfl) (by kernel_rfl) (by kernel_rfl) (by kernel_rfl) (by kernel_rfl) (by kernel_rfl) (by kernel_rfl) (by kernel_rfl) (by kernel_rfl) (hval 1 28 v1 rfl rfl) h1
  have g2 := h2
  have lt2 : ∀ x ∈ p2, x.block < W.heap.size := by obtain ⟨m, hm⟩ := g2; exact DataW.trod_lt m _ _ _ hm
  have w2 : ChgArg W v2 := open_chg Tryz.underlying49 rfl rfl rfl rfl rfl rfl rfl rfl rfl rfl Tryz.underlying22 Tryz.underlying5 Tryz.underlying47 Tryz.underlying63 rfl rfl Tryz.underlying38 Tryz.underlying9 Tryz.underlying9 Tryz.underlying3 Tryz.underlying3 Tryz.underlying9 Tryz.underlying9 Tryz.underlying9 (by kernel_rfl) (by kernel_rfl) (by kernel_rfl) (by kernel_rfl) (by kernel_rfl) (by kernel_rfl) (by kernel_rfl) (by kernel_rfl) (by kernel_rfl) (by kernel_rfl) (by kernel_rfl) (by kernel_rfl) (by kernel_rfl) (hval 2 49 v2 rfl rfl) h2
  have g3 := h3
  have lt3 : ∀ x ∈ p3, x.block < W.heap.size := by obtain ⟨m, hm⟩ := g3; exact DataW.trod_lt m _ _ _ hm
  have w3 : ChgArg W v3 := open_chg Tryz.underlying49 rfl rfl rfl rfl rfl rfl rfl rfl rfl rfl Tryz.underlying22 Tryz.underlying5 Tryz.underlying47 Tryz.underlying63 rfl rfl Tryz.underlying38 Tryz.underlying9 Tryz.underlying9 Tryz.underlying3 Tryz.underlying3 Tryz.underlying9 Tryz.underlying9 Tryz.underlying9 (by kernel_rfl) (by kernel_rfl) (by kernel_rfl) (by kernel_rfl) (by kernel_rfl) (by kernel_rfl) (by kernel_rfl) (by kernel_rfl) (by kernel_rfl) (by kernel_rfl) (by kernel_rfl) (by kernel_rfl) (by kernel_rfl) (hval 3 49 v3 rfl rfl) h3
  clear hA0 hval0
  refine (transApart_walk W w0 w1 w2 w3 (glob_of_laid hL hsh)).mono fun e W' ⟨he, bel⟩ => ?_
  subst he
  exact ⟨_, rfl, _, _, _, [], _, [], hW', trodAll_mk1 (shut_bool Tryz.underlying4 _), (trodAll_cons_mk (Below.trod transApart_laid (by kernel_rfl) (of_decide_eq_true (by kernel_rfl)) g0 bel lt0) (trodAll_cons_mk (Below.trod transApart_laid (by kernel_rfl) (of_decide_eq_true (by kernel_rfl)) g1 bel lt1) (trodAll_cons_mk (Below.trod transApart_laid (by kernel_rfl) (of_decide_eq_true (by kernel_rfl)) g2 bel lt2) (trodAll_cons_mk (Below.trod transApart_laid (by kernel_rfl) (of_decide_eq_true (by kernel_rfl)) g3 bel lt3) trodAll_mk0)))), rfl, bel.frame _, fun h => by cases h⟩
theorem transApart_row : Rows.TransApartSaid :=
  OpenClaim.holds_of_wide 8 Tryz.f8 rfl rfl rfl rfl rfl rfl rfl ⟨rfl, rfl, rfl, rfl, rfl⟩ rfl rfl rfl rfl rfl (by kernel_rfl) Tryz.func8 (by kernel_rfl)
    (of_decide_eq_true (by kernel_rfl)) (by unfold Func.isWrapper; first | (rw [if_pos (by decide +kernel)]; kernel_rfl) | (rw [if_neg (by decide +kernel)]; exact ⟨rfl, rfl⟩))
    (fun os started H enc _ => transApart_lifted os started H enc)
theorem transApart_proved : Rows.TransApartCardSaid :=
  Claim7.holds_tied_plain_at .later [] [.data, .data, .data, .data, .sentinel, .sentinel, .pinned] true (true, "db646f1bcdefcf265fd592b8637b6a1e9f9abe049a2ea3499e45ded016ebd571") true
    transApart_row (fun _ h => by cases h) (by kernel_rfl) (fun _ h => by cases h) transApart_row_tie rfl ⟨rfl, rfl⟩ (by kernel_rfl) rfl
    (fun f fn hf hfn => by
      obtain rfl : f = 8 := Option.some.inj ((show Tryz.prog.funcNamed "tramway/tramwaylaw23.TransApart" = some 8 by kernel_rfl).symm.trans hf) |>.symm
      obtain rfl : fn = Tryz.f8 := (Option.some.inj (Tryz.func8.symm.trans hfn)).symm
      exact ⟨by kernel_rfl, fun j t ht => by
        rw [Tryz.params8] at ht
        have hm : t ∈ [28, 28, 49, 49] := by simpa using Array.mem_of_getElem? ht
        have hall : ([28, 28, 49, 49].all fun u => !Tryz.prog.wantsStandIn u) = true := by kernel_rfl
        exact (show Tryz.prog.wantsStandIn t = false by simpa using List.all_eq_true.1 hall t hm)⟩)
    (by kernel_rfl)
end Go.Proofs.YtgaehhechonegaaGreatDoor
