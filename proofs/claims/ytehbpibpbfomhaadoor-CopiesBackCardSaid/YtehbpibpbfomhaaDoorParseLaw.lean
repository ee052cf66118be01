/- Texts as sums, in plain words. -/
import Derived.Test.YtehbpibpbfomhaaDoorHexLaw
import Derived.Test.YtehbpibpbfomhaaDoorMem
namespace Go.Proofs.YtehbpibpbfomhaaDoor
set_option linter.all false

/-- The value of a letter: -1 where it has none. -/
def dv (c : UInt8) : Int := Lib.indexByte digs c
theorem dv_ge (c : UInt8) : -1 ≤ dv c := Lib.indexByte_ge _ _
theorem indexB_lt (c : UInt8) : ∀ l : List UInt8, l ≠ [] → Lib.indexByte l c < (l.length : Int)
  | [], h => absurd rfl h
  | b :: l, _ => by
    unfold Lib.indexByte
    split
    · simp only [List.length_cons]; omega
    · split
      · simp only [List.length_cons]; omega
      · rename_i h1 h2
        cases l with
        | nil => simp [Lib.indexByte] at h2
        | cons b2 l2 => have := indexB_lt c (b2 :: l2) (by simp); simp at this ⊢; omega
theorem dv_lt (c : UInt8) : dv c < 16 := indexB_lt c digs (by simp [digs])
/-- A byte of what is read, where i letters are read. -/
def outN (l : List UInt8) (i j : Nat) : Nat := if 2 * j + 1 < i then 16 * (dv (l.getD (2 * j) 0)).toNat + (dv (l.getD (2 * j + 1) 0)).toNat else if 2 * j < i then (dv (l.getD (2 * j) 0)).toNat else 0
theorem outN_lt (l : List UInt8) (i j : Nat) : outN l i j < 256 := by
  have h1 := dv_lt (l.getD (2 * j) 0)
  have h2 := dv_lt (l.getD (2 * j + 1) 0)
  unfold outN; split
  · omega
  · split <;> omega
def outC (l : List UInt8) (i : Nat) : Array Value := ((List.range 20).map fun j => Value.int .u8 (outN l i j : Int)).toArray
def outL (l : List UInt8) (i : Nat) : List UInt8 := (List.range 20).map fun j => UInt8.ofNat (outN l i j)
theorem outC_U (l : List UInt8) (i : Nat) : outC l i = ((outL l i).map U).toArray := by
  unfold outC outL U
  rw [List.map_map]
  congr 1
  apply List.map_congr_left
  intro j _
  have := outN_lt l i j
  simp [Nat.mod_eq_of_lt this]
theorem outC_size (l : List UInt8) (i : Nat) : (outC l i).size = 20 := by simp [outC]
theorem outC_at (l : List UInt8) (i j : Nat) (h : j < 20) : (outC l i)[j]? = some (.int .u8 (outN l i j : Int)) := by
  simp [outC, List.getElem?_range, h]
theorem outC_zero (l : List UInt8) : outC l 0 = (List.replicate 20 (Value.int .u8 0)).toArray := by
  unfold outC outN
  simp
  rfl
theorem outN_other (l : List UInt8) (i j : Nat) (h : j ≠ i / 2) : outN l (i + 1) j = outN l i j := by
  unfold outN
  by_cases h1 : 2 * j + 1 < i
  · rw [if_pos h1, if_pos (by omega)]
  · rw [if_neg h1, if_neg (by omega)]
    by_cases h2 : 2 * j < i
    · rw [if_pos h2, if_pos (by omega)]
    · rw [if_neg h2, if_neg (by omega)]
theorem outC_step (l : List UInt8) (i : Nat) (E : Int) (hE : E = (outN l (i + 1) (i / 2) : Int)) : (outC l i).setIfInBounds (i / 2) (.int .u8 E) = outC l (i + 1) := by
  apply Array.ext
  · rw [Array.size_setIfInBounds, outC_size, outC_size]
  · intro j h1 h2
    rw [outC_size] at h2
    rw [Array.size_setIfInBounds] at h1
    have e2 := outC_at l (i + 1) j h2
    have e1 := outC_at l i j h2
    rw [Array.getElem?_eq_getElem (by rw [outC_size]; exact h2), Option.some.injEq] at e1 e2
    rw [e2, Array.getElem_setIfInBounds h1]
    by_cases hj : i / 2 = j
    · rw [if_pos hj, hE, hj]
    · rw [if_neg hj, e1, outN_other l i j (fun h => hj h.symm)]
theorem outN_even (l : List UInt8) (i : Nat) (h : i % 2 = 0) : outN l i (i / 2) = 0 ∧ outN l (i + 1) (i / 2) = (dv (l.getD i 0)).toNat := by
  have e : 2 * (i / 2) = i := by omega
  unfold outN
  rw [e]
  exact ⟨by rw [if_neg (by omega), if_neg (by omega)], by rw [if_neg (by omega), if_pos (by omega)]⟩
theorem outN_odd (l : List UInt8) (i : Nat) (h : i % 2 = 1) : outN l i (i / 2) < 16 ∧ outN l (i + 1) (i / 2) = 16 * outN l i (i / 2) + (dv (l.getD i 0)).toNat := by
  have e : 2 * (i / 2) + 1 = i := by omega
  have h1 := dv_lt (l.getD (2 * (i / 2)) 0)
  unfold outN
  rw [e]
  rw [if_neg (show ¬ i < i by omega), if_pos (show 2 * (i / 2) < i by omega), if_pos (show i < i + 1 by omega)]
  exact ⟨by omega, rfl⟩
attribute [irreducible] dv outN outC outL
end Go.Proofs.YtehbpibpbfomhaaDoor
