/- An argument that is a slice of hunks, opened. -/
import Derived.Test.YtjfmendfhpgopaaArgs
import Derived.Test.YtjfmendfhpgopaaParse
import Derived.Test.YtjfmendfhpgopaaChecked
namespace Go.Proofs.Ytjfmendfhpgopaa
set_option linter.all false
open Go.RowKit Go.ChangeShapes Go.WideShapes Go.ChangeAt Go.Deep

/-- What is told of an argument that is a slice of hunks. -/
structure ArgH (W : World) (A : Option Addr) (n c : Nat) (hs : List HRec) : Prop where
  len : n = hs.length
  rd : RdH W A hs
  cap : hs.length ≤ c
  max : c ≤ 9223372036854775807
  caps : ∀ h ∈ hs, h.b.length ≤ h.c ∧ h.c ≤ 9223372036854775807

/-- Cells that make up hunks. -/
theorem hcells_at (hs : List HRec) (j : Nat) (u : Value) (h : (hcells hs)[j]? = some u) : ∃ (i : Nat) (hi : i < hs.length) (k : Nat), k < 3 ∧ j = i * 3 + k ∧ hs[i].cells[k]? = some u := by
  have hlt : j < hs.length * 3 := by
    rw [← hcells_len]
    rcases Nat.lt_or_ge j (hcells hs).length with h1 | h1
    · exact h1
    · rw [List.getElem?_eq_none h1] at h; cases h
  have hi : j / 3 < hs.length := by omega
  refine ⟨j / 3, hi, j % 3, by omega, by omega, ?_⟩
  rw [← hcells_get hs (j / 3) (j % 3) hi (by omega), show j / 3 * 3 + j % 3 = j by omega]
  exact h

theorem open_hunks {H : Type} {enc : TypeId × Value → H} {w : World} {base : Nat} {spare : Nat → Bool} {held : Bool} {r : Reach} {b0 : Nat} {v : Value} {d : DataW H} {ps : List MemPlace}
    (hval : Value.okWide Try.prog w r b0 23 v) (hd : DataW.Trod enc Try.prog w base spare held 23 v d ps) : ∃ A n c hs, v = .slice A n c ∧ ArgH w A n c hs := by
  obtain ⟨A, n, c, rfl⟩ := okWide_slice Try.underlying23 hval
  obtain ⟨fuel, hf⟩ := hd
  rcases open_slice_fields Try.underlying23 Try.underlying26 (by kernel_rfl) (by kernel_rfl) hf with hcs | ⟨a, len, cap, hcs, hl, hm, hi⟩
  · simp [Value.cells] at hcs
    obtain ⟨rfl, rfl, rfl⟩ := hcs
    exact ⟨_, _, _, [], rfl, rfl, ⟨fun h => absurd h (by simp [hcells]), fun h hh => (by cases hh)⟩, Nat.le_refl _, by omega, fun h hh => (by cases hh)⟩
  · simp [Value.cells] at hcs
    obtain ⟨rfl, rfl, rfl⟩ := hcs
    obtain ⟨hs, hlen, hp⟩ := list_of n (fun i (h : HRec) => (∀ k u, h.cells[k]? = some u → w.cell? (a.add (i * 3 + k)) = some u) ∧ Rd w h.A h.b ∧ h.b.length ≤ h.c ∧ h.c ≤ 9223372036854775807) (by
      intro i hin
      obtain ⟨n', hf'⟩ := hi i hin
      obtain ⟨v0, y0, hc0, ht0⟩ := hf' 0 _ rfl
      obtain ⟨v1, y1, hc1, ht1⟩ := hf' 1 _ rfl
      obtain ⟨v2, y2, hc2, ht2⟩ := hf' 2 _ rfl
      obtain ⟨x0, h0, _⟩ := DataW.trod_int Try.underlying3 ht0
      obtain ⟨x1, h1, _⟩ := DataW.trod_int Try.underlying3 ht1
      obtain ⟨A2, c2, l2, h2, hr, hcap, hmax⟩ := trod_bytes Try.underlying22 Try.underlying5 (by kernel_rfl) ht2
      injection h0 with h0
      injection h1 with h1
      injection h2 with h2
      subst h0 h1 h2
      refine ⟨⟨x0, x1, A2, c2, l2⟩, fun k u hk => ?_, hr, hcap, hmax⟩
      match k, hk with
      | 0, hk => simp [HRec.cells] at hk; subst hk; exact hc0
      | 1, hk => simp [HRec.cells] at hk; subst hk; exact hc1
      | 2, hk => simp [HRec.cells] at hk; subst hk; exact hc2
      | k + 3, hk => simp [HRec.cells] at hk)
    refine ⟨_, _, _, hs, rfl, hlen.symm, ⟨fun h0 => ?_, fun h hh => ?_⟩, by omega, by simpa [maxLen] using hm, fun h hh => ?_⟩
    · rw [hcells_len] at h0
      obtain ⟨b, off, spot⟩ := a
      have hz := (hp 0 (by omega)).1 0 _ rfl
      have hspot : spot = none := by simpa [Addr.add] using World.cell?_spot hz
      subst hspot
      refine ⟨b, off, rfl, fun j u hj => ?_⟩
      obtain ⟨i, hil, k, hk, rfl, hu⟩ := hcells_at hs j u hj
      rw [← add_spot]
      exact (hp i hil).1 k u hu
    · obtain ⟨i, hil, rfl⟩ := List.getElem_of_mem hh
      exact (hp i hil).2.1
    · obtain ⟨i, hil, rfl⟩ := List.getElem_of_mem hh
      exact (hp i hil).2.2
end Go.Proofs.Ytjfmendfhpgopaa
