/- An argument that is a slice of ints, opened. -/
import Derived.Test.YtbefhofmbiedgaaArgs
namespace Go.Proofs.Ytbefhofmbiedgaa
set_option linter.all false
open Go.RowKit Go.ChangeShapes Go.WideShapes Go.ChangeAt Go.Deep

/-- What is told of an argument that is a slice of ints. -/
structure ArgZ (W : World) (A : Option Addr) (n c : Nat) (zs : List Int) : Prop where
  len : n = zs.length
  rd : RdR W A (zs.map fun z => .int .i64 z)
  cap : zs.length ≤ c
  max : c ≤ 9223372036854775807
  wf : ∀ z ∈ zs, -9223372036854775808 ≤ z ∧ z ≤ 9223372036854775807

theorem open_nums {H : Type} {enc : TypeId × Value → H} {P : Program} {w : World} {base : Nat} {spare : Nat → Bool} {held : Bool} {r : Reach} {b0 : Nat} {t e : TypeId} {v : Value} {d : DataW H} {ps : List MemPlace} (ht : P.underlying t = some (.slice e)) (he : P.underlying e = some (.int .i64)) (hc : P.cellsOf e = 1)
    (hval : Value.okWide P w r b0 t v) (hd : DataW.Trod enc P w base spare held t v d ps) : ∃ A n c zs, v = .slice A n c ∧ ArgZ w A n c zs := by
  obtain ⟨A, n, c, rfl⟩ := okWide_slice ht hval
  obtain ⟨fuel, h⟩ := hd
  rcases open_ints ht he hc h with ⟨hcs, _⟩ | ⟨a, l, c, zs, hcs, _, hl, hm, hz, _, hcell, hwz⟩
  · simp [Value.cells] at hcs
    obtain ⟨rfl, rfl, rfl⟩ := hcs
    exact ⟨_, _, _, [], rfl, rfl, fun h => absurd h (by simp), Nat.le_refl _, by omega, fun z hz => by cases hz⟩
  · simp [Value.cells] at hcs
    obtain ⟨rfl, rfl, rfl⟩ := hcs
    have hzl : n ≤ zs.length := by rw [hz]; split <;> omega
    have hlen : (zs.take n).length = n := by simp [List.length_take]; omega
    refine ⟨_, _, _, zs.take n, rfl, hlen.symm, fun h0 => ?_, by omega, by simpa [maxLen] using hm, fun z hz => ?_⟩
    · rw [List.length_map, hlen] at h0
      obtain ⟨b, off, spot⟩ := a
      have hc0 := hcell 0 (by omega)
      have hspot : spot = none := by simpa [Addr.add] using World.cell?_spot hc0
      subst hspot
      refine ⟨b, off, rfl, fun j u hj => ?_⟩
      have hjn : j < n := by
        have := (List.getElem?_eq_some_iff.1 hj).1
        rw [List.length_map, hlen] at this; exact this
      rw [← add_spot, hcell j (by omega)]
      rw [List.getElem?_map, List.getElem?_take, if_pos hjn, List.getElem?_eq_getElem (by omega)] at hj
      simp only [Option.map_some, Option.some.injEq] at hj
      rw [← hj, List.getD_eq_getElem?_getD, List.getElem?_eq_getElem (by omega)]
      rfl
    · have hw := hwz z (List.mem_of_mem_take hz)
      have h4 : (Lit.int .i64 z).wf = true := hw
      simp [Lit.wf, IntKind.min, IntKind.max, IntKind.signed, IntKind.bits] at h4
      exact h4
end Go.Proofs.Ytbefhofmbiedgaa
