/- Small laws of numbers; functions that nothing unfolds. -/
import Derived.Test.YtjdlngbobnknmaaDoorAM4
namespace Go.Proofs.YtjdlngbobnknmaaDoor
set_option linter.all false
open Go.RowKit
noncomputable def sealF {α β : Type} (f : α → β) : α → β := Classical.choose (⟨f, fun _ => rfl⟩ : ∃ g : α → β, ∀ a, g a = f a)
theorem sealF_eq {α β : Type} (f : α → β) (a : α) : sealF f a = f a := Classical.choose_spec (⟨f, fun _ => rfl⟩ : ∃ g : α → β, ∀ a, g a = f a) a
theorem tdiv_nat (n k : Nat) : ((n : Int)).tdiv (k : Int) = ((n / k : Nat) : Int) := by rw [Int.tdiv_eq_ediv_of_nonneg (by omega)]; rfl
theorem tmod_nat (n k : Nat) : ((n : Int)).tmod (k : Int) = ((n % k : Nat) : Int) := by rw [Int.tmod_eq_emod_of_nonneg (by omega)]; rfl
theorem wrap8n {n : Nat} (h : n < 256) : IntKind.u8.wrap (n : Int) = (n : Int) := by rw [IntKind.wrap_u8']; omega
end Go.Proofs.YtjdlngbobnknmaaDoor
