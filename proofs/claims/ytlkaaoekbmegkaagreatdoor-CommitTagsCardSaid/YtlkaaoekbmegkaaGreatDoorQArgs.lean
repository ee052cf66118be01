import Derived.Test.YtlkaaoekbmegkaaGreatDoorQMem
import Derived.WalkKit
import Derived.ProofKit
import Derived.OpenShut
import Derived.ShutString
import Derived.ChangeOld
import Derived.Below
import Derived.Deep.Slices
import Derived.Deep.Fields
import Derived.ChangeSame
/- Arguments that are rows of bytes, opened: what they read as. Over any program; no condition. -/
namespace Go.Proofs.YtlkaaoekbmegkaaGreatDoor
set_option linter.all false
open Go.RowKit Go.ChangeShapes Go.WideShapes Go.ChangeAt Go.Deep

/-- What is told of an argument that is a slice of bytes. -/
structure Arg (W : World) (A : Option Addr) (n c : Nat) (l : List UInt8) : Prop where
  len : n = l.length
  rd : Rd W A l
  cap : l.length ≤ c
  max : c ≤ 9223372036854775807
  blk : ∀ k, ablk A = some k → k < W.heap.size

theorem Rd.take {w : World} {A : Option Addr} {l : List UInt8} (h : Rd w A l) (n : Nat) : Rd w A (l.take n) := by
  intro hl
  have hl2 : 0 < l.length := by rw [List.length_take] at hl; omega
  obtain ⟨b, o, e, hc⟩ := h hl2
  refine ⟨b, o, e, fun k hk => ?_⟩
  rw [List.length_take] at hk
  rw [at8_take _ _ _ (by omega)]
  exact hc k (by omega)

theorem Arg.take {W : World} {A : Option Addr} {n c : Nat} {l : List UInt8} (h : Arg W A n c l) (k : Nat) : Arg W A (min n k) c (l.take k) :=
  ⟨by rw [List.length_take, h.len]; omega, h.rd.take k, by have := h.cap; rw [List.length_take]; omega, h.max, h.blk⟩

/-- The bytes of integers. -/
def bytesOf (zs : List Int) : List UInt8 := zs.map fun z => UInt8.ofNat z.toNat
theorem bytesOf_at (zs : List Int) (k : Nat) (hk : k < zs.length) (h0 : 0 ≤ zs.getD k 0) (h1 : zs.getD k 0 ≤ 255) : at8 (bytesOf zs) k = zs.getD k 0 := by
  unfold at8 bytesOf
  simp only [List.getD_eq_getElem?_getD, List.getElem?_map, List.getElem?_eq_getElem hk, Option.map_some, Option.getD_some] at h0 h1 ⊢
  simp
  omega

section
variable {H : Type} {enc : TypeId × Value → H} {P : Program} {w : World} {base : Nat} {spare : Nat → Bool} {held : Bool}

/-- Cells of bytes that were read. -/
theorem trod_bytes {t e : TypeId} {fuel : Nat} {cs : List Value} {x : DataW H × List MemPlace} (ht : P.underlying t = some (.slice e)) (he : P.underlying e = some (.int .u8)) (hc : P.cellsOf e = 1)
    (h : DataW.trod enc P w base spare held fuel t cs = some x) : ∃ A c l, cs = [.slice A l.length c] ∧ Rd w A l ∧ l.length ≤ c ∧ c ≤ 9223372036854775807 := by
  rcases open_ints ht he hc h with ⟨hcs, _⟩ | ⟨a, l, c, zs, hcs, _, hl, hm, hz, _, hcell, hwz⟩
  · exact ⟨none, 0, [], hcs, Rd.nil _ _, Nat.le_refl _, Nat.zero_le _⟩
  · have hzl : l ≤ zs.length := by rw [hz]; split <;> omega
    have hlen : (bytesOf (zs.take l)).length = l := by simp [bytesOf, List.length_take]; omega
    refine ⟨some a, c, bytesOf (zs.take l), by rw [hlen]; exact hcs, fun h0 => ?_, by omega, by simpa [maxLen] using hm⟩
    rw [hlen] at h0
    obtain ⟨b, off, spot⟩ := a
    have hc0 := hcell 0 (by omega)
    have hspot : spot = none := by simpa [Addr.add] using World.cell?_spot hc0
    subst hspot
    refine ⟨b, off, rfl, fun k hk => ?_⟩
    rw [hlen] at hk
    have h1 := hcell k (by omega)
    rw [add_spot] at h1
    have hmem : zs.getD k 0 ∈ zs := by
      rw [List.getD_eq_getElem?_getD, List.getElem?_eq_getElem (by omega)]; exact List.getElem_mem _
    have hw := hwz _ hmem
    have hw2 : 0 ≤ zs.getD k 0 ∧ zs.getD k 0 ≤ 255 := by
      have h4 : (Lit.int .u8 (zs.getD k 0)).wf = true := hw
      generalize zs.getD k 0 = z at h4
      simp [Lit.wf, IntKind.min, IntKind.max, IntKind.signed, IntKind.bits] at h4
      exact h4
    have h3 : (zs.take l).getD k 0 = zs.getD k 0 := by simp [List.getD_eq_getElem?_getD, List.getElem?_take, hk]
    rw [h1, bytesOf_at _ _ (by rw [List.length_take]; omega) (by rw [h3]; exact hw2.1) (by rw [h3]; exact hw2.2), h3]

/-- A slice's block is there. -/
theorem slice_blk {r : Reach} {b0 : Nat} {t e : TypeId} {A : Option Addr} {n c : Nat} (ht : P.underlying t = some (.slice e)) (hval : Value.okWide P w r b0 t (.slice A n c)) : ∀ k, ablk A = some k → k < w.heap.size := by
  intro k hk
  cases A with
  | none => cases hk
  | some a =>
    cases hk
    simp only [Value.okWide, ht, Cell.okWide, Cell.ok] at hval
    obtain ⟨_, _, _, _, row, cells, hs, _⟩ := hval
    rcases Nat.lt_or_ge a.block w.heap.size with h | h
    · exact h
    · simp [World.shape?, Array.getElem?_eq_none h] at hs

theorem open_bytes {r : Reach} {b0 : Nat} {t e : TypeId} {v : Value} {d : DataW H} {ps : List MemPlace} (ht : P.underlying t = some (.slice e)) (he : P.underlying e = some (.int .u8)) (hc : P.cellsOf e = 1)
    (hval : Value.okWide P w r b0 t v) (hd : DataW.Trod enc P w base spare held t v d ps) : ∃ A n c l, v = .slice A n c ∧ Arg w A n c l := by
  obtain ⟨A, n, c, rfl⟩ := okWide_slice ht hval
  obtain ⟨fuel, hf⟩ := hd
  obtain ⟨A', c', l, hcs, h1, h2, h3⟩ := trod_bytes ht he hc hf
  simp [Value.cells] at hcs
  obtain ⟨rfl, rfl, rfl⟩ := hcs
  exact ⟨_, _, _, l, rfl, rfl, h1, h2, h3, slice_blk ht hval⟩
theorem open_slice_fields {t e : TypeId} {fs : Array Field} {fuel : Nat} {cs : List Value} {x : DataW H × List MemPlace} (ht : P.underlying t = some (.slice e)) (he : P.underlying e = some (.struct fs))
    (hone : oneCellFields P fs = true) (hC : P.cellsOf e = fs.size) (h : DataW.trod enc P w base spare held fuel t cs = some x) :
    cs = [.slice none 0 0] ∨
    ∃ (a : Addr) (len cap : Nat), cs = [.slice (some a) len cap] ∧ len ≤ cap ∧ cap ≤ maxLen ∧
      ∀ i, i < len → ∃ (n : Nat), ∀ (j : Nat) (f : Field), fs[j]? = some f → ∃ (v : Value) (y : DataW H × List MemPlace), w.cell? (a.add (i * fs.size + j)) = some v ∧ DataW.trod enc P w base spare held n f.type [v] = some y := by
  rcases open_slice ht h with h0 | ⟨a, len, cap, m, n, D, Pl, hcs, hb, hl, hm, hmm, hx, hi⟩
  · exact .inl h0.1
  · refine .inr ⟨a, len, cap, hcs, hl, hm, fun i hil => ?_⟩
    have him : i < m := by rw [hmm]; split <;> omega
    obtain ⟨cs', hc, ht'⟩ := hi i him
    rw [hC] at hc
    obtain ⟨ys, n', hn', hy, hlen, hyl, hf⟩ := DataW.trod_struct he ht'
    obtain ⟨_, hcl, hat⟩ := World.cells?_some hc
    refine ⟨n', fun j f hj => ?_⟩
    obtain ⟨ho, hk⟩ := hone_of hone j f hj
    have hjl : j < fs.size := (Array.getElem?_eq_some_iff.1 hj).1
    have hcell := hat j hjl
    have hv : cs'[j]? = some (cs'[j]'(by omega)) := List.getElem?_eq_getElem (by omega)
    have h1 := hf j f hj
    rw [ho, hk] at h1
    have hone' : (cs'.drop j).take 1 = [cs'[j]'(by omega)] := by
      rw [List.drop_eq_getElem_cons (by omega)]
      rfl
    rw [hone'] at h1
    have hys : ys[j]? = some (ys[j]'(by omega)) := List.getElem?_eq_getElem (by omega)
    exact ⟨_, _, by rw [← Go.Deep.add_add, hcell, hv], h1.trans hys⟩
end

/-- A list out of its places. -/
theorem list_of {α : Type} (n : Nat) (p : Nat → α → Prop) (h : ∀ i, i < n → ∃ x, p i x) : ∃ l : List α, l.length = n ∧ ∀ i (hi : i < l.length), p i l[i] := by
  induction n with
  | zero => exact ⟨[], rfl, fun i hi => absurd hi (by simp)⟩
  | succ n ih =>
    obtain ⟨l, hl, hp⟩ := ih fun i hi => h i (by omega)
    obtain ⟨x, hx⟩ := h n (by omega)
    refine ⟨l ++ [x], by simp [hl], fun i hi => ?_⟩
    rcases Nat.lt_or_ge i l.length with h1 | h1
    · rw [List.getElem_append_left h1]; exact hp i h1
    · have : i = n := by simp at hi; omega
      subst this
      rw [List.getElem_append_right h1]
      simpa [hl] using hx
end Go.Proofs.YtlkaaoekbmegkaaGreatDoor
