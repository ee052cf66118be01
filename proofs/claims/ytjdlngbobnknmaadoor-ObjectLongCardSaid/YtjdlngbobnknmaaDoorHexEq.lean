/- The two texts of a sum are one, on plain lists. -/
import Derived.Test.YtjdlngbobnknmaaDoorHexLaw
import Derived.Test.YtjdlngbobnknmaaDoorT2h
namespace Go.Proofs.YtjdlngbobnknmaaDoor
set_option linter.all false
open Go.RowKit
theorem digN_digs : ∀ k : Fin 16, digN (k.1 : Int) = ((digs.getD k.1 0).toNat : Int) := by decide
theorem hexI_eq : ∀ l : List UInt8, hexI l = hexL l
  | [] => rfl
  | u :: l => by
    have hu := u.toNat_lt
    have h1 := digN_digs ⟨u.toNat / 16, by omega⟩
    have h2 := digN_digs ⟨u.toNat % 16, by omega⟩
    simp only at h1 h2
    have ih := hexI_eq l
    unfold hexI at ih ⊢
    rw [List.flatMap_cons, ih, hexL, show (u.toNat : Int) / 16 = ((u.toNat / 16 : Nat) : Int) by omega, show (u.toNat : Int) % 16 = ((u.toNat % 16 : Nat) : Int) by omega, h1, h2]
    simp only [Int.toNat_natCast, UInt8.ofNat_toNat, List.cons_append, List.nil_append]
end Go.Proofs.YtjdlngbobnknmaaDoor
