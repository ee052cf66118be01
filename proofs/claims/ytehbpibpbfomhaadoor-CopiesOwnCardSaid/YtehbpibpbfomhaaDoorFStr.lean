/- Library functions over texts, as contracts on abstract values. -/
import Derived.Test.YtehbpibpbfomhaaDoorRunes
import Derived.Test.YtehbpibpbfomhaaDoorAM4
import Derived.Test.YtehbpibpbfomhaaDoorNameLaw
namespace Go.Proofs.YtehbpibpbfomhaaDoor
set_option linter.all false
open Go.RowKit
open Go.Lib (index hasPrefix trimPrefix cut indexAny)
theorem bs_of (l : List UInt8) : (⟨l.toArray⟩ : ByteArray).data.toList = l := rfl
theorem of_bs (s : ByteArray) : (⟨s.data.toList.toArray⟩ : ByteArray) = s := by cases s; rfl
theorem Vl.tup2 {w : World} {S : Nat → Prop} {ρ : Rho} {x y : AV} {u v : Value} (h : Vl1 w S ρ x u) (k : Vl1 w S ρ y v) : Vl w S ρ (.tup [x, y]) (.tuple #[u, v]) :=
  ⟨[u, v], rfl, rfl, fun i hi => by
    match i, hi with
    | 0, _ => exact h
    | 1, _ => exact k⟩
theorem Vl.tup3 {w : World} {S : Nat → Prop} {ρ : Rho} {x y z : AV} {u v t : Value} (h : Vl1 w S ρ x u) (k : Vl1 w S ρ y v) (m : Vl1 w S ρ z t) : Vl w S ρ (.tup [x, y, z]) (.tuple #[u, v, t]) :=
  ⟨[u, v, t], rfl, rfl, fun i hi => by
    match i, hi with
    | 0, _ => exact h
    | 1, _ => exact k
    | 2, _ => exact m⟩
def hasPreS : Spec := fun xs hp => match xs, hp with
  | [.str s, .str p], [] => some ⟨.bool (hasPrefix s p), [], True⟩
  | _, _ => none
theorem hasPre_ok : FnOk Tryd.prog 15 hasPreS := by
  refine fnok_of_calls fun xs0 hp r hs hp' => ?_
  unfold hasPreS at hs
  split at hs
  · rename_i s p
    injection hs with hs; subst hs
    refine ⟨rfl, rfl, fun w S ρ args hS ha => ?_⟩
    obtain ⟨v, vs, rfl, hv, hr⟩ := ha.get _ _ rfl
    obtain ⟨u, us, rfl, hu, hr⟩ := hr.get _ _ rfl
    obtain rfl := hr.none
    rw [hv.str, hu.str]
    refine (Tryd.strings_HasPrefix ⟨s.toArray⟩ ⟨p.toArray⟩ w).mono ?_
    rintro e w' ⟨rfl, rfl⟩
    exact ⟨_, rfl, Below.refl _ _, fun _ _ _ => Vl.bool' _⟩
  · cases hs
def cutPreS : Spec := fun xs hp => match xs, hp with
  | [.str s, .str p], [] => some ⟨.tup [.str (trimPrefix s p), .bool (hasPrefix s p)], [], True⟩
  | _, _ => none
theorem cutPre_ok : FnOk Tryd.prog 35 cutPreS := by
  refine fnok_of_calls fun xs0 hp r hs hp' => ?_
  unfold cutPreS at hs
  split at hs
  · rename_i s p
    injection hs with hs; subst hs
    refine ⟨rfl, rfl, fun w S ρ args hS ha => ?_⟩
    obtain ⟨v, vs, rfl, hv, hr⟩ := ha.get _ _ rfl
    obtain ⟨u, us, rfl, hu, hr⟩ := hr.get _ _ rfl
    obtain rfl := hr.none
    rw [hv.str, hu.str]
    refine (Tryd.strings_CutPrefix ⟨s.toArray⟩ ⟨p.toArray⟩ w).mono ?_
    rintro e w' ⟨rfl, rfl⟩
    exact ⟨_, rfl, Below.refl _ _, fun _ _ _ => Vl.tup2 (Vl.str' _) (Vl.bool' _)⟩
  · cases hs
theorem maxLen_cell {w : World} {S : Nat → Prop} (h : GlobOk w S) : ∃ m, w.cell? ⟨0, 0, none⟩ = some (.int .i64 m) := (h.2 0 (by kernel_rfl)).2
def cutS : Spec := fun xs hp => match xs, hp with
  | [.str s, .str p], [] => some ⟨.tup [.str (cut s p).1, .str (cut s p).2.1, .bool (cut s p).2.2], [], s.length < 4294967281⟩
  | _, _ => none
theorem cut_ok : FnOk Tryd.prog 23 cutS := by
  refine fnok_of_calls fun xs0 hp r hs hp' => ?_
  unfold cutS at hs
  split at hs
  · rename_i s p
    injection hs with hs; subst hs
    refine ⟨rfl, rfl, fun w S ρ args hS ha => ?_⟩
    obtain ⟨m, hm⟩ := maxLen_cell ha.glob
    obtain ⟨v, vs, rfl, hv, hr⟩ := ha.get _ _ rfl
    obtain ⟨u, us, rfl, hu, hr⟩ := hr.get _ _ rfl
    obtain rfl := hr.none
    rw [hv.str, hu.str]
    refine (Tryd.strings_Cut ⟨s.toArray⟩ ⟨p.toArray⟩ m w (by rw [Lib.size_eq]; exact hp') hm).mono ?_
    rintro e w' ⟨rfl, n, rfl⟩
    exact ⟨_, rfl, belowN (Below.refl _ _) n, fun _ _ _ => Vl.tup3 (Vl.str' _) (Vl.str' _) (Vl.bool' _)⟩
  · cases hs
/-! Rows of texts -/
theorem css_strs {w : World} {S : Nat → Prop} {ρ : Rho} : ∀ ps : List (List UInt8), Css w S ρ (prs 1 (ps.map AV.str)) (ps.map fun l => Value.string ⟨l.toArray⟩)
  | [] => rfl
  | l :: ps => ⟨[_], _, rfl, rfl, .str l, css_strs ps⟩
def splitS : Spec := fun xs hp => match xs, hp with
  | [.str s, .str [c]], [] => some ⟨.own 0 0, [.row 9 1 0 ((psl c s).map AV.str)], s.length < 4294967281⟩
  | _, _ => none
theorem split_ok : FnOk Tryd.prog 29 splitS := by
  refine fnok_row fun xs0 hp r hs hp' => ?_
  unfold splitS at hs
  split at hs
  · rename_i s c
    injection hs with hs; subst hs
    refine ⟨rfl, _, _, _, rfl, rfl, fun w S ρ args hS ha => ?_⟩
    obtain ⟨m, hm⟩ := maxLen_cell ha.glob
    obtain ⟨v, vs, rfl, hv, hr⟩ := ha.get _ _ rfl
    obtain ⟨u, us, rfl, hu, hr⟩ := hr.get _ _ rfl
    obtain rfl := hr.none
    rw [hv.str, hu.str]
    refine (Tryd.strings_Split ⟨s.toArray⟩ ⟨[c].toArray⟩ m w (by rw [Lib.size_eq]; exact hp') hm (Nat.le_refl 1)).mono ?_
    rintro e w' ⟨rfl, rfl⟩
    have e1 : (Lib.splitB ⟨[c].toArray⟩ 0 (Lib.countB ⟨s.toArray⟩ ⟨[c].toArray⟩) ⟨s.toArray⟩).map (·.data.toList) = psl c s := by
      rw [Lib.splitB_data]; exact splitK_psl c s
    obtain ⟨X, hX⟩ : ∃ X, Lib.splitB ⟨[c].toArray⟩ 0 (Lib.countB ⟨s.toArray⟩ ⟨[c].toArray⟩) ⟨s.toArray⟩ = X := ⟨_, rfl⟩
    have e2 : X.length = Lib.countB ⟨s.toArray⟩ ⟨[c].toArray⟩ + 1 := by rw [← hX]; exact Lib.splitB_all ⟨[c].toArray⟩ (Nat.le_refl 1) 0 _ _ rfl
    rw [hX] at e1
    have e3 : X.map Value.string = (psl c s).map fun l => Value.string ⟨l.toArray⟩ := by
      rw [← e1, List.map_map]
      refine List.map_congr_left fun x _ => ?_
      simp only [Function.comp_apply, of_bs]
    have e4 : (psl c s).length = Lib.countB ⟨s.toArray⟩ ⟨[c].toArray⟩ + 1 := by rw [← e1, List.length_map, e2]
    have e5 := psl_join_len c s
    have hp2 : s.length < 4294967281 := hp'
    rw [hX, e3, ← e4]
    refine ⟨w.heap.size, _, _, _, ((psl c s).map fun l => Value.string ⟨l.toArray⟩).toArray, (0, 0), rfl, (Below.refl _ _).alloc (Nat.le_refl _) _, Nat.le_refl _, ?_, .inl rfl, Nat.le_refl _, by omega, by simp, ?_, by simp, by simp, css_strs _⟩
    · show (w.heap.push (Obj.cells _ _ _))[w.heap.size]? = _
      simp
    · rw [List.take_of_length_le (by simp)]
  · cases hs
def idxAny3S : Spec := fun xs hp => match xs, hp with
  | [.str s, .str p], [] => some ⟨.int .i64 (indexAny s p), [], p = [0, 10, 13] ∧ s.length < 4294967281⟩
  | _, _ => none
theorem idxAny3_ok : FnOk Tryd.prog 38 idxAny3S := by
  refine fnok_of_calls fun xs0 hp r hs hp' => ?_
  unfold idxAny3S at hs
  split at hs
  · rename_i s p
    injection hs with hs; subst hs
    obtain ⟨rfl, p2⟩ := hp'
    refine ⟨rfl, rfl, fun w S ρ args hS ha => ?_⟩
    obtain ⟨v, vs, rfl, hv, hr⟩ := ha.get _ _ rfl
    obtain ⟨u, us, rfl, hu, hr⟩ := hr.get _ _ rfl
    obtain rfl := hr.none
    rw [hv.str, hu.str]
    have hs0 : (⟨s.toArray⟩ : ByteArray).size = s.length := by rw [Lib.size_eq]
    by_cases h8 : s.length ≤ 8
    · refine (indexAny_short3 ⟨s.toArray⟩ w (by rw [hs0]; exact h8)).mono ?_
      rintro e w' ⟨rfl, hb⟩
      exact ⟨_, rfl, hb, fun _ _ _ => Vl.int' _ _⟩
    · refine (Tryd.strings_IndexAny_long (fun w => by kernel_rfl) ⟨s.toArray⟩ ctl3 w (by decide) (by rw [hs0]; omega) (by rw [hs0]; exact p2) (by decide) (fun j b hb => ?_)).mono ?_
      · have hb' : ([0, 10, 13] : List UInt8)[j]? = some b := hb
        match j, hb' with
        | 0, h => injection h with h; subst h; decide
        | 1, h => injection h with h; subst h; decide
        | 2, h => injection h with h; subst h; decide
        | k + 3, h => simp at h
      · rintro e w' ⟨rfl, rfl⟩
        exact ⟨_, rfl, ((Below.refl _ _).alloc (Nat.le_refl _) _).alloc (by simp) _, fun _ _ _ => Vl.int' _ _⟩
  · cases hs
end Go.Proofs.YtehbpibpbfomhaaDoor
