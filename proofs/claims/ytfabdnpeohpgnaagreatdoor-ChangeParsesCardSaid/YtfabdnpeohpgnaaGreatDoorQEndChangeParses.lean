/- ChangeParses: the given statement, out of its walk. -/
import Derived.Test.YtfabdnpeohpgnaaGreatDoorTie
import Derived.Lay
import Derived.Stop.Joined
import Derived.Test.YtfabdnpeohpgnaaGreatDoorCards
import Derived.Test.YtfabdnpeohpgnaaGreatDoorQAMS
import Derived.SevenTiedAt
import Derived.Test.YtfabdnpeohpgnaaGreatDoorQLChgCode
import Derived.ProofKit
import Derived.OpenShut
import Derived.ChangeOld
import Derived.Below
import Derived.Carry
namespace Go.Proofs.YtfabdnpeohpgnaaGreatDoor
set_option linter.all false
open Go.ChangeShapes Go.WideShapes Go.ChangeAt Go.RowKit
set_option linter.unusedVariables false

theorem changeParses_own : ownKnob Tryz.prog.godebug = none := by kernel_rfl
theorem changeParses_laid : laidOutB Tryz.prog = true := by kernel_rfl

set_option maxRecDepth 100000 in
theorem changeParses_lifted (os : Os) (started : os.Started) (H : Type) (enc : TypeId × Value → H) :
    ReturnsInHanded {} Tryz.checked os 4 .any (fun w args => (Rows.changeParsesSpec.pre enc Tryz.prog Tryz.f4 Rows.changeParsesRow.domain false w args ∧ laidMetH Tryz.prog Rows.changeParsesRow.laid w) ∧ sizedMet enc Tryz.prog Tryz.f4 (OpenSpec.ofChange Rows.changeParsesSpec) false w args)
      (Rows.changeParsesSpec.post enc Tryz.prog Tryz.f4 false true false false) := by
  refine returns_shaped (C := Tryz.checked) (X := fun w _ => laidMetH Tryz.prog Rows.changeParsesRow.laid w) (fun _ _ _ hh h => h.of_heap hh) changeParses_own started (by kernel_rfl) Tryz.func4
    (ChangeSpec.witness_shaped (enc := enc) (C := Tryz.checked) (os := os) (X := fun w _ => laidMetH Tryz.prog Rows.changeParsesRow.laid w) false (World.laidAll Tryz.prog os Rows.changeParsesRow.laid) #[.slice none 0 0] 8 (World.laidAll_os _ _ _) (World.shaped_of_ZipB (by kernel_rfl) (by kernel_rfl)) (by kernel_rfl) (by kernel_rfl) (by kernel_rfl) (by rw [MakeChecks.laidMetH_plain _ _ _ (by kernel_rfl)]; exact laidMet_laidAll _ (by kernel_rfl) (by kernel_rfl))) ?_
  intro W base args ds gs before hval0 hW hL hsh
  have hval : ∀ (j : Nat) t v, Tryz.f4.params[j]? = some t → args[j]? = some v → Value.okWide Tryz.prog W .any base t v := hval0
  have hW' := hW
  obtain ⟨p, q, hA0, hV, rfl, hfz, hnd⟩ := hW
  have hA : DataW.TrodAll enc Tryz.prog W 0 (fun _ => true) true Tryz.f4.params.toList args.toList ds p := hA0
  rw [Tryz.params4] at hA hval
  obtain ⟨v0, vs0, d0, ds0, p0, q0, hargs, rfl, rfl, h0, r0⟩ := trodAll_cons hA
  obtain ⟨rfl, rfl, rfl⟩ := trodAll_nil r0
  obtain rfl : args = #[v0] := by cases args; simp_all
  obtain ⟨rfl, rfl⟩ := trodVars_none hV
  have g0 := h0
  have lt0 : ∀ x ∈ p0, x.block < W.heap.size := by obtain ⟨m, hm⟩ := g0; exact DataW.trod_lt m _ _ _ hm
  obtain ⟨A0, n0, c0, l0, rfl, w0⟩ := open_bytes Tryz.underlying33 Tryz.underlying5 (by kernel_rfl) (hval 0 33 v0 rfl rfl) h0
  clear hA0 hval0
  refine (changeParses_walk W w0 (glob_of_laid hL hsh)).mono fun e W' ⟨he, bel⟩ => ?_
  subst he
  exact ⟨_, rfl, _, _, _, [], _, [], hW', trodAll_mk1 (shut_bool Tryz.underlying4 _), (trodAll_cons_mk (Below.trod changeParses_laid (by kernel_rfl) (of_decide_eq_true (by kernel_rfl)) g0 bel lt0) trodAll_mk0), rfl, bel.frame _, fun h => by cases h⟩

theorem changeParses_row : Rows.ChangeParsesSaid :=
  OpenClaim.holds_of_wide 4 Tryz.f4 rfl rfl rfl rfl rfl rfl rfl ⟨rfl, rfl, rfl, rfl, rfl⟩ rfl rfl rfl rfl rfl (by kernel_rfl) Tryz.func4 (by kernel_rfl)
    (of_decide_eq_true (by kernel_rfl)) (by unfold Func.isWrapper; first | (rw [if_pos (by decide +kernel)]; kernel_rfl) | (rw [if_neg (by decide +kernel)]; exact ⟨rfl, rfl⟩))
    (fun os started H enc _ => changeParses_lifted os started H enc)
/-- The statement. -/
theorem changeParses_proved : Rows.ChangeParsesCardSaid :=
  Claim7.holds_tied_plain_at .later [] [.data, .data, .data, .data, .sentinel, .sentinel, .pinned] true (true, "37889dcae23eee0d84accb1913480c862ec73400a63776b39df52f7b2c7d6b7b") true
    changeParses_row (fun _ h => by cases h) (by kernel_rfl) (fun _ h => by cases h) changeParses_row_tie rfl ⟨rfl, rfl⟩ (by kernel_rfl) rfl
    (fun f fn hf hfn => by
      obtain rfl : f = 4 := Option.some.inj ((show Tryz.prog.funcNamed "tramway/tramwaylaw19.ChangeParses" = some 4 by kernel_rfl).symm.trans hf) |>.symm
      obtain rfl : fn = Tryz.f4 := (Option.some.inj (Tryz.func4.symm.trans hfn)).symm
      exact ⟨by kernel_rfl, fun j t ht => by
        rw [Tryz.params4] at ht
        have hm : t ∈ [33] := by simpa using Array.mem_of_getElem? ht
        have hall : ([33].all fun u => !Tryz.prog.wantsStandIn u) = true := by kernel_rfl
        exact (show Tryz.prog.wantsStandIn t = false by simpa using List.all_eq_true.1 hall t hm)⟩)
    (by kernel_rfl)
#print axioms changeParses_proved
end Go.Proofs.YtfabdnpeohpgnaaGreatDoor
