/- Numbers out of bytes, as plain lists: rows of sevens, heads. -/
import Derived.Test.YtaglhfgobkgnaaaDoorNumLaw
import Derived.Lib.BitFns
namespace Go.Proofs.YtaglhfgobkgnaaaDoor
set_option linter.all false
open Go.RowKit
/-- A row of sevens gone through: how many bytes, the error's number, the state behind. -/
def sevGo (step : Nat → Nat → Nat → Bool × Nat) : Nat → Nat → List UInt8 → (Int × Int) × Nat
  | k, _, [] => ((0, 3), k)
  | k, i, c :: r => if i = 12 then ((0, 2), k) else
    match step (c.toNat % 128) i k with
    | (false, k') => ((0, 2), k')
    | (true, k') => if c.toNat < 128 then ((((i + 1 : Nat) : Int), (0 : Int)), k') else sevGo step k' (i + 1) r
theorem sevGo_nil (step : Nat → Nat → Nat → Bool × Nat) (k i : Nat) : sevGo step k i [] = ((0, 3), k) := rfl
theorem sevGo_12 (step : Nat → Nat → Nat → Bool × Nat) (k : Nat) (c : UInt8) (r : List UInt8) : sevGo step k 12 (c :: r) = ((0, 2), k) := rfl
theorem sevGo_f {step : Nat → Nat → Nat → Bool × Nat} {k i : Nat} {c : UInt8} {r : List UInt8} (h : i ≠ 12) (hs : (step (c.toNat % 128) i k).1 = false) : sevGo step k i (c :: r) = ((0, 2), (step (c.toNat % 128) i k).2) := by
  rw [sevGo, if_neg h]
  split
  · rename_i e; rw [e]
  · rename_i e; rw [e] at hs; cases hs
theorem sevGo_end {step : Nat → Nat → Nat → Bool × Nat} {k i : Nat} {c : UInt8} {r : List UInt8} (h : i ≠ 12) (hs : (step (c.toNat % 128) i k).1 = true) (hc : c.toNat < 128) : sevGo step k i (c :: r) = ((((i + 1 : Nat) : Int), (0 : Int)), (step (c.toNat % 128) i k).2) := by
  rw [sevGo, if_neg h]
  split
  · rename_i e; rw [e] at hs; cases hs
  · rename_i e; rw [if_pos hc, e]
theorem sevGo_on {step : Nat → Nat → Nat → Bool × Nat} {k i : Nat} {c : UInt8} {r : List UInt8} (h : i ≠ 12) (hs : (step (c.toNat % 128) i k).1 = true) (hc : 128 ≤ c.toNat) : sevGo step k i (c :: r) = sevGo step (step (c.toNat % 128) i k).2 (i + 1) r := by
  rw [sevGo, if_neg h]
  split
  · rename_i e; rw [e] at hs; cases hs
  · rename_i e; rw [if_neg (by omega), e]

/-! ### Sevens, the lowest first -/
def badLeb (s i : Nat) : Bool := decide (0 < s ∧ 4611686018427387904 ≤ s * 2 ^ (7 * i))
def stepLeb (s i k : Nat) : Bool × Nat := if badLeb s i = true then (false, k) else (true, k + s * 2 ^ (7 * i))
def okLeb (k i : Nat) : Prop := k < 2 ^ (7 * i) ∧ k < 4611686018427387904
theorem badLeb_f {s i : Nat} (h : badLeb s i = false) (hi : i < 12) (hs : s < 128) : s * 2 ^ (7 * i) < 4611686018427387904 ∧ (s = 0 ∨ i ≤ 8) := by
  have h := of_decide_eq_false h
  rcases Nat.eq_zero_or_pos s with h0 | h0
  · subst h0; simp
  · have h1 : s * 2 ^ (7 * i) < 4611686018427387904 := by
      rcases Nat.lt_or_ge (s * 2 ^ (7 * i)) 4611686018427387904 with h2 | h2
      · exact h2
      · exact absurd ⟨h0, h2⟩ h
    refine ⟨h1, .inr ?_⟩
    rcases Nat.lt_or_ge 8 i with h2 | h2
    · have h3 : (2 : Nat) ^ 63 ≤ 2 ^ (7 * i) := Nat.pow_le_pow_right (by omega) (by omega)
      have h4 : 1 * 2 ^ (7 * i) ≤ s * 2 ^ (7 * i) := Nat.mul_le_mul_right _ h0
      omega
    · exact h2
theorem okLeb_step {s i k : Nat} (hi : i < 12) (hs : s < 128) (h : okLeb k i) (hb : badLeb s i = false) : okLeb (k + s * 2 ^ (7 * i)) (i + 1) := by
  obtain ⟨h1, h2⟩ := badLeb_f hb hi hs
  obtain ⟨h3, h4⟩ := h
  have h5 : (2 : Nat) ^ (7 * (i + 1)) = 128 * 2 ^ (7 * i) := by rw [show 7 * (i + 1) = 7 + 7 * i by omega, Nat.pow_add]
  refine ⟨?_, ?_⟩
  · rw [h5]
    have : s * 2 ^ (7 * i) ≤ 127 * 2 ^ (7 * i) := Nat.mul_le_mul_right _ (by omega)
    omega
  · rcases h2 with rfl | h2
    · omega
    · have e : (4611686018427387904 : Nat) = 2 ^ (62 - 7 * i) * 2 ^ (7 * i) := by rw [← Nat.pow_add, show 62 - 7 * i + 7 * i = 62 by omega]
      rw [e] at h1 ⊢
      have h6 := Nat.lt_of_mul_lt_mul_right h1
      have h7 : (s + 1) * 2 ^ (7 * i) ≤ 2 ^ (62 - 7 * i) * 2 ^ (7 * i) := Nat.mul_le_mul_right _ h6
      rw [Nat.add_mul] at h7
      omega
/-- What is read: the number, how many bytes, the error's number. -/
def lebR (l : List UInt8) : Int × Int × Int := if (sevGo stepLeb 0 0 l).1.2 = 0 then (((sevGo stepLeb 0 0 l).2 : Int), (sevGo stepLeb 0 0 l).1.1, 0) else (0, 0, (sevGo stepLeb 0 0 l).1.2)
theorem leb_read : ∀ (N n i k : Nat) (r : List UInt8), n ≤ N → n * 2 ^ (7 * i) < 4611686018427387904 → (i = 0 ∨ 0 < n) → sevGo stepLeb k i (lebL n ++ r) = ((((i + (lebL n).length : Nat) : Int), (0 : Int)), k + n * 2 ^ (7 * i)) := by
  intro N
  induction N with
  | zero =>
    intro n i k r hN h1 h2
    have : n = 0 := by omega
    subst this
    obtain rfl : i = 0 := by omega
    rw [lebL_small (by omega)]
    refine sevGo_end (by omega) ?_ ?_
    · simp [stepLeb, badLeb, o8_toNat]
    · simp [o8_toNat]
  | succ N ih =>
    intro n i k r hN h1 h2
    have hi : i ≤ 8 := by
      rcases Nat.lt_or_ge 8 i with h | h
      · have h3 : (2 : Nat) ^ 63 ≤ 2 ^ (7 * i) := Nat.pow_le_pow_right (by omega) (by omega)
        have h4 : 1 * 2 ^ (7 * i) ≤ n * 2 ^ (7 * i) := Nat.mul_le_mul_right _ (by omega)
        omega
      · exact h
    by_cases hn : n < 128
    · have hs : stepLeb ((o8 n).toNat % 128) i k = (true, k + n * 2 ^ (7 * i)) := by
        have e : (o8 n).toNat % 128 = n := by rw [o8_toNat]; omega
        rw [e]
        have hb : badLeb n i = false := decide_eq_false (by omega)
        unfold stepLeb; rw [hb]; rfl
      rw [lebL_small hn, List.singleton_append, sevGo_end (by omega) (by rw [hs]) (by rw [o8_toNat]; omega), hs]
      rfl
    · have e : (o8 (n % 128 + 128)).toNat % 128 = n % 128 := by rw [o8_toNat]; omega
      have h3 : n % 128 * 2 ^ (7 * i) ≤ n * 2 ^ (7 * i) := Nat.mul_le_mul_right _ (Nat.mod_le _ _)
      have hs : stepLeb ((o8 (n % 128 + 128)).toNat % 128) i k = (true, k + n % 128 * 2 ^ (7 * i)) := by
        rw [e]
        have hb : badLeb (n % 128) i = false := decide_eq_false (by omega)
        unfold stepLeb; rw [hb]; rfl
      have h5 : (2 : Nat) ^ (7 * (i + 1)) = 128 * 2 ^ (7 * i) := by rw [show 7 * (i + 1) = 7 + 7 * i by omega, Nat.pow_add]
      have h6 : n / 128 * (128 * 2 ^ (7 * i)) + n % 128 * 2 ^ (7 * i) = n * 2 ^ (7 * i) := by
        rw [← Nat.mul_assoc, ← Nat.add_mul]; congr 1; omega
      rw [lebL_big (by omega), List.cons_append, sevGo_on (by omega) (by rw [hs]) (by rw [o8_toNat]; omega), hs]
      simp only
      rw [ih (n / 128) (i + 1) _ r (by omega) (by rw [h5]; omega) (by omega), h5]
      simp only [List.length_cons, Prod.mk.injEq, and_true]
      exact ⟨by omega, by omega⟩
theorem leb_cut : ∀ (N n i k : Nat), n ≤ N → n * 2 ^ (7 * i) < 4611686018427387904 → (i = 0 ∨ 0 < n) → (sevGo stepLeb k i (lebL n).dropLast).1 = (0, 3) := by
  intro N
  induction N with
  | zero =>
    intro n i k hN h1 h2
    have : n = 0 := by omega
    subst this
    rw [lebL_small (by omega)]; rfl
  | succ N ih =>
    intro n i k hN h1 h2
    have hi : i ≤ 8 := by
      rcases Nat.lt_or_ge 8 i with h | h
      · have h3 : (2 : Nat) ^ 63 ≤ 2 ^ (7 * i) := Nat.pow_le_pow_right (by omega) (by omega)
        have h4 : 1 * 2 ^ (7 * i) ≤ n * 2 ^ (7 * i) := Nat.mul_le_mul_right _ (by omega)
        omega
      · exact h
    by_cases hn : n < 128
    · rw [lebL_small hn]; rfl
    · have e : (o8 (n % 128 + 128)).toNat % 128 = n % 128 := by rw [o8_toNat]; omega
      have h3 : n % 128 * 2 ^ (7 * i) ≤ n * 2 ^ (7 * i) := Nat.mul_le_mul_right _ (Nat.mod_le _ _)
      have hs : stepLeb ((o8 (n % 128 + 128)).toNat % 128) i k = (true, k + n % 128 * 2 ^ (7 * i)) := by
        rw [e]
        have hb : badLeb (n % 128) i = false := decide_eq_false (by omega)
        unfold stepLeb; rw [hb]; rfl
      have h5 : (2 : Nat) ^ (7 * (i + 1)) = 128 * 2 ^ (7 * i) := by rw [show 7 * (i + 1) = 7 + 7 * i by omega, Nat.pow_add]
      have h6 : n / 128 * (128 * 2 ^ (7 * i)) + n % 128 * 2 ^ (7 * i) = n * 2 ^ (7 * i) := by
        rw [← Nat.mul_assoc, ← Nat.add_mul]; congr 1; omega
      have hp := lebL_pos (n / 128)
      rw [lebL_big (by omega), List.dropLast_cons_of_ne_nil (List.length_pos_iff.1 hp), sevGo_on (by omega) (by rw [hs]) (by rw [o8_toNat]; omega), hs]
      exact ih (n / 128) (i + 1) _ (by omega) (by rw [h5]; omega) (by omega)

/-! ### Offsets -/
def stepOfs (s i k : Nat) : Bool × Nat := if 36028797018963968 ≤ (if 0 < i then k + 1 else k) then (false, if 0 < i then k + 1 else k) else (true, (if 0 < i then k + 1 else k) * 128 + s)
def ofsRd (l : List UInt8) : Int × Int × Int := if (sevGo stepOfs 0 0 l).1.2 = 0 then (((sevGo stepOfs 0 0 l).2 : Int), (sevGo stepOfs 0 0 l).1.1, 0) else (0, 0, (sevGo stepOfs 0 0 l).1.2)
/-- Of a row that ends: the number, and that it is written so. -/
theorem ofs_back : ∀ (l : List UInt8) (i k : Nat) (p : List UInt8), (i = 0 → k = 0) → p.length = i → (ofsR (if 0 < i then k + 1 else 0)).reverse = p → (sevGo stepOfs k i l).1.2 = 0 →
    ∃ j : Nat, (sevGo stepOfs k i l).1.1 = ((i + j : Nat) : Int) ∧ j ≤ l.length ∧ ofsL (sevGo stepOfs k i l).2 = p ++ l.take j ∧ (sevGo stepOfs k i l).2 < 4611686018427387904 := by
  intro l
  induction l with
  | nil => intro i k p _ _ _ h; simp [sevGo] at h
  | cons c r ih =>
    intro i k p h0 hp hr h
    by_cases h12 : i = 12
    · subst h12; rw [sevGo_12] at h; simp at h
    · have hc := c.toNat_lt
      have hm : (if 0 < i then k + 1 else k) = (if 0 < i then k + 1 else 0) := by split <;> first | rfl | exact h0 (by omega)
      cases hs : (stepOfs (c.toNat % 128) i k).1 with
      | false => rw [sevGo_f h12 hs] at h; simp at h
      | true =>
        have hv : (stepOfs (c.toNat % 128) i k).2 = (if 0 < i then k + 1 else 0) * 128 + c.toNat % 128 ∧ (if 0 < i then k + 1 else 0) < 36028797018963968 := by
          unfold stepOfs at hs ⊢
          rw [hm] at hs ⊢
          by_cases hlt : 36028797018963968 ≤ (if 0 < i then k + 1 else 0)
          · rw [if_pos hlt] at hs; cases hs
          · rw [if_neg hlt]; exact ⟨rfl, by omega⟩
        generalize (if 0 < i then k + 1 else 0) = m at *
        by_cases hlo : c.toNat < 128
        · rw [sevGo_end h12 hs hlo]
          refine ⟨1, rfl, by simp, ?_, ?_⟩
          · simp only [List.take_succ_cons, List.take_zero]
            rw [hv.1, ofsL_eq, show (m * 128 + c.toNat % 128) / 128 = m by omega, show (m * 128 + c.toNat % 128) % 128 = c.toNat by omega, hr, o8_of]
          · simp only; rw [hv.1]; omega
        · rw [sevGo_on h12 hs (by omega)] at h ⊢
          have hq : (ofsR ((stepOfs (c.toNat % 128) i k).2 + 1)).reverse = p ++ [c] := by
            rw [hv.1, ofsR_pos (by omega), Nat.add_sub_cancel, show (m * 128 + c.toNat % 128) / 128 = m by omega, show (m * 128 + c.toNat % 128) % 128 + 128 = c.toNat by omega, List.reverse_cons, hr, o8_of]
          obtain ⟨j, j1, j2, j3, j4⟩ := ih (i + 1) _ (p ++ [c]) (by omega) (by simp [hp]) (by rw [if_pos (by omega)]; exact hq) h
          refine ⟨j + 1, by rw [j1]; congr 1; omega, by simp; omega, ?_, j4⟩
          rw [j3, List.take_succ_cons, List.append_assoc]; rfl
end Go.Proofs.YtaglhfgobkgnaaaDoor
