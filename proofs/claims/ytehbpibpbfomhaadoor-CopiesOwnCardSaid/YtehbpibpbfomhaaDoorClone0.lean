/- slices.Clone at any slice, as contracts on abstract values. -/
import Derived.Test.YtehbpibpbfomhaaDoorFCopy
import Derived.Lib.SliceRun
namespace Go.Proofs.YtehbpibpbfomhaaDoor
set_option linter.all false
open Go.RowKit
theorem bytC0 : Byt Tryd.prog 22 5 := ⟨Tryd.underlying22, by kernel_rfl⟩
theorem clone_none (c : Nat) (w : World) : Calls Tryd.prog 16 #[.slice none 0 c] w fun e w' => ∃ A' c', e = .returned (.slice A' 0 c') ∧ c' ≤ 9223372036854775807 ∧ Below w.heap.size w w' := by
  have hx := fun w => Lib.run_eql_slice_nil (P := Tryd.prog) w 22 5 none 0 c 0 0 Tryd.underlying22
  go_enter Tryd.func16, Tryd.ntmps16
  go_wp2
  go_ret
  exact ⟨none, 0, rfl, by decide, Below.refl _ _⟩
theorem clone_some (A : Addr) (c : Nat) (w : World) : Calls Tryd.prog 16 #[.slice (some A) 0 c] w fun e w' => ∃ A' c', e = .returned (.slice A' 0 c') ∧ c' ≤ 9223372036854775807 ∧ Below w.heap.size w w' := by
  have hx := fun w => Lib.run_eql_slice_nil (P := Tryd.prog) w 22 5 (some A) 0 c 0 0 Tryd.underlying22
  go_enter Tryd.func16, Tryd.ntmps16
  go_wp2
  go_ret
  exact ⟨_, 0, rfl, by decide, (Below.refl _ _).alloc (Nat.le_refl _) _⟩
def cloneS0 : Spec := fun xs hp => match xs, hp with
  | [.sl 1 []], [] => some ⟨.sl 1 [], [], True⟩
  | _, _ => none
theorem Vl.sl0 {w : World} {S : Nat → Prop} {ρ : Rho} {sz : Nat} {v : Value} (h : Vl w S ρ (.sl sz []) v) : ∃ A c, v = .slice A 0 c := by
  obtain ⟨A, n, c, us, rfl, hM⟩ := Mem.of_sl h.sl
  have := hM.len
  simp at this
  subst this
  exact ⟨A, c, rfl⟩
theorem clone_ok0 : FnOk Tryd.prog 16 cloneS0 := by
  refine fnok_of_calls fun xs0 hp r hs hp' => ?_
  unfold cloneS0 at hs
  split at hs
  · injection hs with hs; subst hs
    refine ⟨rfl, rfl, fun w S ρ args hS ha => ?_⟩
    obtain ⟨v, vs, rfl, hv, hr⟩ := ha.get _ _ rfl
    obtain rfl := hr.none
    obtain ⟨A, c, rfl⟩ := hv.sl0
    cases A with
    | none =>
      refine (clone_none c w).mono ?_
      rintro e w' ⟨A', c', rfl, h1, h2⟩
      exact ⟨_, rfl, h2, fun _ _ _ => .inr ⟨_, .sl0 1 A' c' h1, rfl⟩⟩
    | some A =>
      refine (clone_some A c w).mono ?_
      rintro e w' ⟨A', c', rfl, h1, h2⟩
      exact ⟨_, rfl, h2, fun _ _ _ => .inr ⟨_, .sl0 1 A' c' h1, rfl⟩⟩
  · cases hs
/-- A row that is new, or nothing. -/
def cloneR (bs : List AV) : Option Ret := if bs = [] then some ⟨.sl 1 [], [], True⟩ else some ⟨.own 0 1, [.row 5 1 1 (Bs (unB bs))], bs = Bs (unB bs) ∧ bs.length ≤ 1000000000000⟩
def cloneS : Spec := fun xs hp => match xs, hp with
  | [.sl 1 bs], [] => cloneR bs
  | _, _ => none
theorem clone_ok : FnOk Tryd.prog 16 cloneS := by
  refine FnOk.or clone_ok0 clone_ok1 fun xs hp r hs hp' => ?_
  unfold cloneS at hs
  split at hs
  · rename_i bs
    unfold cloneR at hs
    split at hs
    · rename_i h; subst h; injection hs with hs; subst hs
      exact .inl ⟨_, rfl, trivial, rfl, rfl⟩
    · rename_i h; injection hs with hs; subst hs
      exact .inr ⟨_, rfl, ⟨h, hp'⟩, rfl, rfl⟩
  · cases hs
end Go.Proofs.YtehbpibpbfomhaaDoor
