/- Decimal texts, as plain lists: what is written, what is read, by the program and by the document. -/
import Derived.Test.YtjdlngbobnknmaaDoorNumLaw
namespace Go.Proofs.YtjdlngbobnknmaaDoor
set_option linter.all false
open Go.RowKit
open Go.Lib (decDigits itoa atoiAll parseUint10 parseMag nDigits)
def dc (d : Nat) : UInt8 := UInt8.ofNat (48 + d)
theorem dc_toNat {d : Nat} (h : d < 10) : (dc d).toNat = 48 + d := by simp [dc]; omega
theorem dc_of {c : UInt8} (h : 48 ≤ c.toNat) (h' : c.toNat ≤ 57) : dc (c.toNat - 48) = c := by
  apply UInt8.toNat_inj.1; rw [dc_toNat (by omega)]; omega
theorem decD_small {n : Nat} (h : n < 10) : decDigits n = [dc n] := by rw [decDigits, dif_pos h]; rfl
theorem decD_big {n : Nat} (h : 10 ≤ n) : decDigits n = decDigits (n / 10) ++ [dc (n % 10)] := by rw [decDigits, dif_neg (by omega)]; rfl
theorem decD_pos (n : Nat) : 0 < (decDigits n).length := by
  by_cases h : n < 10
  · rw [decD_small h]; simp
  · rw [decD_big (by omega)]; simp
theorem decD_pow (k n : Nat) (h : n < 10 ^ (k + 1)) : (decDigits n).length ≤ k + 1 := by
  induction k generalizing n with
  | zero => rw [decD_small (by simpa using h)]; simp
  | succ k ih =>
    by_cases h1 : n < 10
    · rw [decD_small h1]; simp
    · rw [decD_big (by omega)]
      have := ih (n / 10) (by rw [Nat.pow_succ] at h; omega)
      simp; omega
theorem decD_mono (n m : Nat) (h : n ≤ m) : (decDigits n).length ≤ (decDigits m).length := by
  induction m using Nat.strongRecOn generalizing n with
  | _ m ih =>
    by_cases h1 : n < 10
    · rw [decD_small h1]; exact decD_pos m
    · rw [decD_big (n := n) (by omega), decD_big (n := m) (by omega)]
      have := ih (m / 10) (by omega) (n / 10) (by omega)
      simp; omega
/-- The first digit. -/
theorem decD_head (n : Nat) : ∃ d r, decDigits n = dc d :: r ∧ d < 10 ∧ (0 < n → 0 < d) ∧ (n < 10 → r = []) := by
  induction n using Nat.strongRecOn with
  | _ n ih =>
    by_cases h : n < 10
    · exact ⟨n, [], decD_small h, h, fun h => h, fun _ => rfl⟩
    · obtain ⟨d, r, e, h1, h2, _⟩ := ih (n / 10) (by omega)
      refine ⟨d, r ++ [dc (n % 10)], by rw [decD_big (by omega), e]; rfl, h1, fun _ => h2 (by omega), fun hh => absurd hh h⟩
theorem itoa_nat (n : Nat) : itoa (n : Int) = decDigits n := Lib.itoa_nonneg n
/-! ### What strconv.Atoi makes of digits -/
theorem pu_dec (n : Nat) (h : n < 18446744073709551616) (r : List UInt8) : parseUint10 0 (decDigits n ++ r) = parseUint10 n r := by
  induction n using Nat.strongRecOn generalizing r with
  | _ n ih =>
    by_cases h1 : n < 10
    · rw [decD_small h1]
      simp only [List.cons_append, List.nil_append, parseUint10, dc_toNat h1]
      rw [if_pos (by omega), if_neg (by omega), if_neg (by omega)]
      congr 1; omega
    · rw [decD_big (by omega), List.append_assoc, ih (n / 10) (by omega) (by omega)]
      have hd : n % 10 < 10 := by omega
      simp only [List.cons_append, List.nil_append, parseUint10, dc_toNat hd]
      rw [if_pos (by omega), if_neg (by omega), if_neg (by omega)]
      congr 1; omega
theorem atoi_dec (n : Nat) (h : n < 9223372036854775808) : atoiAll (decDigits n) = .ok (n : Int) := by
  obtain ⟨d, r, e, h1, _, _⟩ := decD_head n
  have hp : parseMag (decDigits n) = .ok n := by
    have := pu_dec n (by omega) []
    rw [List.append_nil] at this
    unfold parseMag
    rw [if_neg (by rw [e]; simp), this]; rfl
  have ht := dc_toNat h1
  rw [e] at hp ⊢
  unfold atoiAll
  simp only [ht]
  rw [if_neg (by omega), hp]
  simp only
  rw [if_neg (by omega), if_neg (by omega), if_neg (by omega)]
/-- The program's reading of a text. -/
def decV (s : List UInt8) : Option Nat :=
  match atoiAll s with
  | .ok v => if 0 ≤ v ∧ v < 4611686018427387904 ∧ itoa v = s then some v.toNat else none
  | _ => none
theorem decV_dec (n : Nat) (h : n < 4611686018427387904) : decV (decDigits n) = some n := by
  unfold decV
  rw [atoi_dec n (by omega)]
  simp only
  rw [if_pos ⟨by omega, by omega, itoa_nat n⟩]; rfl
theorem decV_some {s : List UInt8} {n : Nat} (h : decV s = some n) : s = decDigits n ∧ n < 4611686018427387904 := by
  unfold decV at h
  split at h
  · split at h
    · rename_i v _ hc
      obtain ⟨h1, h2, h3⟩ := hc
      injection h with h
      subst h
      refine ⟨?_, by omega⟩
      rw [← h3, ← itoa_nat, Int.toNat_of_nonneg h1]
    · cases h
  · cases h
/-! ### The document's reading -/
def rgo (acc : Nat) : List UInt8 → Option Nat
  | [] => some acc
  | c :: r => if c.toNat < 48 ∨ 57 < c.toNat then none else if (4611686018427387903 - (c.toNat - 48)) / 10 < acc then none else rgo (10 * acc + (c.toNat - 48)) r
def rdecV (s : List UInt8) : Option Nat := if s.length = 0 ∨ 19 < s.length ∨ (1 < s.length ∧ (s.getD 0 0).toNat = 48) then none else rgo 0 s
theorem rgo_dec (n : Nat) (h : n < 4611686018427387904) (r : List UInt8) : rgo 0 (decDigits n ++ r) = rgo n r := by
  induction n using Nat.strongRecOn generalizing r with
  | _ n ih =>
    by_cases h1 : n < 10
    · rw [decD_small h1]
      simp only [List.cons_append, List.nil_append, rgo, dc_toNat h1]
      rw [if_neg (by omega), if_neg (by omega)]
      congr 1; omega
    · rw [decD_big (by omega), List.append_assoc, ih (n / 10) (by omega) (by omega)]
      have hd : n % 10 < 10 := by omega
      simp only [List.cons_append, List.nil_append, rgo, dc_toNat hd]
      rw [if_neg (by omega), if_neg (by omega)]
      congr 1; omega
theorem rgo_back : ∀ (l : List UInt8) (acc n : Nat), 1 ≤ acc → acc < 4611686018427387904 → rgo acc l = some n → decDigits acc ++ l = decDigits n ∧ n < 4611686018427387904 := by
  intro l
  induction l with
  | nil => intro acc n _ h2 h; simp only [rgo, Option.some.injEq] at h; subst h; exact ⟨List.append_nil _, h2⟩
  | cons c r ih =>
    intro acc n h1 h2 h
    simp only [rgo] at h
    split at h
    · cases h
    · split at h
      · cases h
      · obtain ⟨k1, k2⟩ := ih _ n (by omega) (by omega) h
        refine ⟨?_, k2⟩
        rw [← k1, decD_big (n := 10 * acc + _) (by omega), show (10 * acc + (c.toNat - 48)) / 10 = acc by omega, show (10 * acc + (c.toNat - 48)) % 10 = c.toNat - 48 by omega, dc_of (by omega) (by omega), List.append_assoc]
        rfl
theorem rdecV_eq (s : List UInt8) : rdecV s = decV s := by
  have some_of : ∀ n, n < 4611686018427387904 → rdecV (decDigits n) = some n := by
    intro n hn
    obtain ⟨d, r, e, h1, h2, h3⟩ := decD_head n
    have hl := decD_pow 18 n (by omega)
    unfold rdecV
    rw [if_neg, ← List.append_nil (decDigits n), rgo_dec n hn]
    · rfl
    · rintro (h | h | ⟨h, k⟩)
      · have := decD_pos n; omega
      · omega
      · rw [e] at k h
        simp only [List.getD_cons_zero, dc_toNat h1] at k
        by_cases hn : n < 10
        · rw [h3 hn] at h; simp at h
        · have := h2 (by omega); omega
  cases h : decV s with
  | some n =>
    obtain ⟨rfl, hn⟩ := decV_some h
    exact some_of n hn
  | none =>
    cases h' : rdecV s with
    | none => rfl
    | some n =>
      exfalso
      unfold rdecV at h'
      split at h'
      · cases h'
      · rename_i hc
        cases s with
        | nil => exact hc (.inl rfl)
        | cons c r =>
          simp only [rgo] at h'
          split at h'
          · cases h'
          · split at h'
            · cases h'
            · rename_i hd hb
              by_cases hr : r = []
              · subst hr
                simp only [rgo, Option.some.injEq] at h'
                have e : [c] = decDigits n := by rw [← h', decD_small (by omega), show 10 * 0 + (c.toNat - 48) = c.toNat - 48 by omega, dc_of (by omega) (by omega)]
                rw [e, decV_dec n (by omega)] at h; cases h
              · have hlen : 1 < (c :: r).length := by have := List.length_pos_iff.2 hr; simp; omega
                have hne : c.toNat ≠ 48 := fun e => hc (.inr (.inr ⟨hlen, e⟩))
                obtain ⟨k1, k2⟩ := rgo_back r _ n (by omega) (by omega) h'
                rw [decD_small (by omega), show 10 * 0 + (c.toNat - 48) = c.toNat - 48 by omega, dc_of (by omega) (by omega)] at k1
                rw [show c :: r = [c] ++ r from rfl, k1, decV_dec n k2] at h; cases h
theorem decV_minus (n : Nat) : decV (45 :: decDigits n) = none := by
  cases h : decV (45 :: decDigits n) with
  | none => rfl
  | some m =>
    obtain ⟨e, _⟩ := decV_some h
    obtain ⟨d, r, e2, h1, _, _⟩ := decD_head m
    rw [e2] at e
    injection e with e _
    have := congrArg UInt8.toNat e
    rw [dc_toNat h1] at this
    have h45 : (45 : UInt8).toNat = 45 := rfl
    omega
theorem decV_nought (n : Nat) : decV (48 :: decDigits n) = none := by
  cases h : decV (48 :: decDigits n) with
  | none => rfl
  | some m =>
    obtain ⟨e, _⟩ := decV_some h
    obtain ⟨d, r, e2, h1, h2, h3⟩ := decD_head m
    have hp := decD_pos n
    have hl := congrArg List.length e
    rw [e2] at e hl
    injection e with e _
    have := congrArg UInt8.toNat e
    rw [dc_toNat h1] at this
    have h48 : (48 : UInt8).toNat = 48 := rfl
    by_cases hm : m < 10
    · rw [h3 hm] at hl; simp only [List.length_cons, List.length_nil] at hl; omega
    · have := h2 (by omega); omega
end Go.Proofs.YtjdlngbobnknmaaDoor
