import Derived.Test.YtlkaaoekbmegkaaGreatDoorQAMS
import Derived.Lib.ItoaNum
import Derived.Lib.ItoaMem
import Derived.Lib.AtoiAll
import Derived.Laws.BitsAllLaws
import Derived.Test.YtlkaaoekbmegkaaGreatDoorChecked
import Derived.Test.YtlkaaoekbmegkaaGreatDoorQShelf
import Derived.Sort.Grow
import Derived.Test.YtlkaaoekbmegkaaGreatDoorQMem
/- Numbers as bytes and digits, as plain lists: big endian, sevens, offsets, heads, decimals. -/
namespace Go.Proofs.YtlkaaoekbmegkaaGreatDoor
set_option linter.all false
open Go.RowKit
def o8 (n : Nat) : UInt8 := UInt8.ofNat n
theorem o8_toNat (n : Nat) : (o8 n).toNat = n % 256 := by simp [o8]
theorem ub_o8 (n : Nat) : ub (o8 n) = .int .u8 ((n % 256 : Nat) : Int) := by simp [ub, o8_toNat]
theorem o8_mod (n : Nat) : o8 (n % 256) = o8 n := by apply UInt8.toNat_inj.1; simp [o8_toNat]
theorem o8_of (u : UInt8) : o8 u.toNat = u := by simp [o8]
theorem Bs_o8 (n : Nat) (h : n < 256) : [(.int .u8 (n : Int) : AV)] = Bs [o8 n] := by simp [Bs, ub_o8, Nat.mod_eq_of_lt h]
theorem i64_and (a b : Nat) (ha : a < 9223372036854775808) (hb : b < 9223372036854775808) : bits .and .i64 (a : Int) (b : Int) = ((a &&& b : Nat) : Int) := by
  have hx : a &&& b < 2 ^ 63 := Nat.and_lt_two_pow _ (by omega)
  have h1 : (BitVec.ofInt 64 (a : Int)).toNat = a := by
    rw [BitVec.ofInt_natCast, BitVec.toNat_ofNat]; exact Nat.mod_eq_of_lt (by omega)
  have h2 : (BitVec.ofInt 64 (b : Int)).toNat = b := by
    rw [BitVec.ofInt_natCast, BitVec.toNat_ofNat]; exact Nat.mod_eq_of_lt (by omega)
  show IntKind.i64.wrap ((BitVec.ofInt 64 (a : Int) &&& BitVec.ofInt 64 (b : Int)).toNat : Int) = _
  rw [BitVec.toNat_and, h1, h2, IntWalk.i64_in _ (by omega)]
theorem i64_or (a b : Nat) (ha : a < 9223372036854775808) (hb : b < 9223372036854775808) : bits .or .i64 (a : Int) (b : Int) = ((a ||| b : Nat) : Int) := by
  have hx : a ||| b < 2 ^ 63 := Nat.or_lt_two_pow (by omega) (by omega)
  have h1 : (BitVec.ofInt 64 (a : Int)).toNat = a := by
    rw [BitVec.ofInt_natCast, BitVec.toNat_ofNat]; exact Nat.mod_eq_of_lt (by omega)
  have h2 : (BitVec.ofInt 64 (b : Int)).toNat = b := by
    rw [BitVec.ofInt_natCast, BitVec.toNat_ofNat]; exact Nat.mod_eq_of_lt (by omega)
  show IntKind.i64.wrap ((BitVec.ofInt 64 (a : Int) ||| BitVec.ofInt 64 (b : Int)).toNat : Int) = _
  rw [BitVec.toNat_or, h1, h2, IntWalk.i64_in _ (by omega)]

theorem ub_wrap (n : Nat) : (.int .u8 (IntKind.u8.wrap (n : Int)) : AV) = ub (o8 n) := by
  rw [ub_o8, IntKind.wrap_u8']; rfl
theorem ub_low (n : Nat) (h : n < 256) : (.int .u8 (n : Int) : AV) = ub (o8 n) := by rw [ub_o8, Nat.mod_eq_of_lt h]
/-- A high bit set. -/
theorem or_high (x k : Nat) (h : x < 2 ^ k) : x ||| 2 ^ k = x + 2 ^ k := by
  rw [Nat.or_comm]
  have := nat_join k (2 ^ k) x (by simp) h
  omega
theorem or_128 (x : Nat) (h : x < 256) : x ||| 128 = x % 128 + 128 := by
  by_cases h1 : x < 128
  · rw [Nat.mod_eq_of_lt h1]; exact or_high x 7 (by omega)
  · have e : x = 128 ||| (x - 128) := by
      have := nat_join 7 128 (x - 128) (by decide) (by omega)
      omega
    have e2 : x % 128 = x - 128 := by omega
    rw [e2]
    conv => lhs; rw [e, Nat.or_comm, ← Nat.or_assoc, Nat.or_self]
    have := nat_join 7 128 (x - 128) (by decide) (by omega)
    omega

/-! ### Big endian -/
def beL (n : Nat) : Nat → List UInt8
  | 0 => []
  | k + 1 => beL (n / 256) k ++ [o8 n]
theorem beL_len (n k : Nat) : (beL n k).length = k := by
  induction k generalizing n with
  | zero => rfl
  | succ k ih => simp [beL, ih]
theorem beL_cons (n k : Nat) : beL n (k + 1) = o8 (n / 256 ^ k) :: beL n k := by
  induction k generalizing n with
  | zero => simp [beL]
  | succ k ih =>
    rw [beL, ih]
    simp only [beL, List.cons_append]
    rw [Nat.div_div_eq_div_mul, Nat.pow_succ, Nat.mul_comm]
/-- The number of bytes. -/
def beN : List UInt8 → Nat → Nat
  | [], a => a
  | u :: l, a => beN l (a * 256 + u.toNat)
theorem beN_append (l m : List UInt8) (a : Nat) : beN (l ++ m) a = beN m (beN l a) := by
  induction l generalizing a with
  | nil => rfl
  | cons u l ih => simp only [List.cons_append, beN, ih]
theorem beN_beL (n k : Nat) : beN (beL n k) 0 = n % 256 ^ k := by
  induction k generalizing n with
  | zero => simp [beL, beN, Nat.mod_one]
  | succ k ih =>
    rw [beL, beN_append, ih]
    simp only [beN, o8_toNat]
    have h1 := Nat.div_add_mod (n / 256) (256 ^ k)
    have h2 := Nat.div_add_mod n 256
    rw [Nat.pow_succ, Nat.mul_comm (256 ^ k) 256, Nat.mod_mul]
    omega

/-! ### Sevens, the lowest first -/
def lebL0 (n : Nat) : List UInt8 := if n < 128 then [o8 n] else o8 (n % 128 + 128) :: lebL0 (n / 128)
termination_by n
decreasing_by omega
theorem lebL_ex : ∃ f : Nat → List UInt8, ∀ n, f n = if n < 128 then [o8 n] else o8 (n % 128 + 128) :: f (n / 128) := ⟨lebL0, fun n => by rw [lebL0]⟩
/-- (Chosen, so that nothing unfolds it.) -/
noncomputable def lebL : Nat → List UInt8 := Classical.choose lebL_ex
theorem lebL_eq (n : Nat) : lebL n = if n < 128 then [o8 n] else o8 (n % 128 + 128) :: lebL (n / 128) := Classical.choose_spec lebL_ex n
theorem lebL_small {n : Nat} (h : n < 128) : lebL n = [o8 n] := by rw [lebL_eq, if_pos h]
theorem lebL_big {n : Nat} (h : 128 ≤ n) : lebL n = o8 (n % 128 + 128) :: lebL (n / 128) := by rw [lebL_eq, if_neg (by omega)]
theorem lebL_pos (n : Nat) : 0 < (lebL n).length := by
  by_cases h : n < 128
  · rw [lebL_small h]; simp
  · rw [lebL_big (by omega)]; simp
theorem lebL_pow (k n : Nat) (h : n < 128 ^ (k + 1)) : (lebL n).length ≤ k + 1 := by
  induction k generalizing n with
  | zero => rw [lebL_small (by simpa using h)]; simp
  | succ k ih =>
    by_cases h1 : n < 128
    · rw [lebL_small h1]; simp
    · rw [lebL_big (by omega)]
      have := ih (n / 128) (by rw [Nat.pow_succ] at h; omega)
      simp; omega
theorem lebL_len {n : Nat} (h : n < 4611686018427387904) : (lebL n).length ≤ 9 := lebL_pow 8 n (by omega)
theorem lebL_mono (n m : Nat) (h : n ≤ m) : (lebL n).length ≤ (lebL m).length := by
  induction m using Nat.strongRecOn generalizing n with
  | _ m ih =>
    by_cases h1 : n < 128
    · rw [lebL_small h1]; exact lebL_pos m
    · rw [lebL_big (n := n) (by omega), lebL_big (n := m) (by omega)]
      have := ih (m / 128) (by omega) (n / 128) (by omega)
      simp; omega

/-! ### Offsets -/
def ofsR0 (m : Nat) : List UInt8 := if m = 0 then [] else o8 ((m - 1) % 128 + 128) :: ofsR0 ((m - 1) / 128)
termination_by m
decreasing_by omega
theorem ofsR_ex : ∃ f : Nat → List UInt8, ∀ m, f m = if m = 0 then [] else o8 ((m - 1) % 128 + 128) :: f ((m - 1) / 128) := ⟨ofsR0, fun m => by rw [ofsR0]⟩
noncomputable def ofsR : Nat → List UInt8 := Classical.choose ofsR_ex
theorem ofsR_eq (m : Nat) : ofsR m = if m = 0 then [] else o8 ((m - 1) % 128 + 128) :: ofsR ((m - 1) / 128) := Classical.choose_spec ofsR_ex m
theorem ofsR_zero : ofsR 0 = [] := by rw [ofsR_eq, if_pos rfl]
theorem ofsR_pos {m : Nat} (h : 0 < m) : ofsR m = o8 ((m - 1) % 128 + 128) :: ofsR ((m - 1) / 128) := by rw [ofsR_eq, if_neg (by omega)]
noncomputable def ofsB (n : Nat) : List UInt8 := o8 (n % 128) :: ofsR (n / 128)
noncomputable def ofsL (n : Nat) : List UInt8 := (ofsB n).reverse
theorem ofsR_pow (k m : Nat) (h : m < 128 ^ k) : (ofsR m).length ≤ k := by
  induction k generalizing m with
  | zero => have : m = 0 := by simpa using h
            subst this; rw [ofsR_zero]; simp
  | succ k ih =>
    by_cases h1 : m = 0
    · subst h1; rw [ofsR_zero]; simp
    · rw [ofsR_pos (by omega)]
      have := ih ((m - 1) / 128) (by rw [Nat.pow_succ] at h; omega)
      simp; omega
theorem ofsB_len {n : Nat} (h : n < 4611686018427387904) : (ofsB n).length ≤ 9 := by
  have := ofsR_pow 8 (n / 128) (by omega)
  simp [ofsB]; omega
theorem ofsL_len {n : Nat} (h : n < 4611686018427387904) : (ofsL n).length ≤ 9 := by rw [ofsL, List.length_reverse]; exact ofsB_len h
theorem ofsL_pos (n : Nat) : 0 < (ofsL n).length := by simp [ofsL, ofsB]
theorem ofsR_mono (n m : Nat) (h : n ≤ m) : (ofsR n).length ≤ (ofsR m).length := by
  induction m using Nat.strongRecOn generalizing n with
  | _ m ih =>
    by_cases h1 : n = 0
    · subst h1; rw [ofsR_zero]; simp
    · rw [ofsR_pos (m := n) (by omega), ofsR_pos (m := m) (by omega)]
      have := ih ((m - 1) / 128) (by omega) ((n - 1) / 128) (by omega)
      simp; omega
theorem ofsL_mono (n m : Nat) (h : n ≤ m) : (ofsL n).length ≤ (ofsL m).length := by
  have := ofsR_mono (n / 128) (m / 128) (by omega)
  simp [ofsL, ofsB]; omega
theorem ofsL_small {n : Nat} (h : n < 128) : ofsL n = [o8 n] := by
  rw [ofsL, ofsB, Nat.div_eq_of_lt h, ofsR_zero, Nat.mod_eq_of_lt h]; rfl
theorem ofsL_big {n : Nat} (h : 128 ≤ n) : ofsL n = ((ofsR ((n / 128 - 1) / 128)).reverse ++ [o8 ((n / 128 - 1) % 128 + 128)]) ++ [o8 (n % 128)] := by
  rw [ofsL, ofsB, ofsR_pos (by omega), List.reverse_cons, List.reverse_cons]
theorem ofsL_eq (n : Nat) : ofsL n = (ofsR (n / 128)).reverse ++ [o8 (n % 128)] := by rw [ofsL, ofsB, List.reverse_cons]

/-! ### Heads -/
noncomputable def headL (k n : Nat) : List UInt8 := if n < 16 then [o8 (16 * k + n)] else o8 (128 + 16 * k + n % 16) :: lebL (n / 16)
theorem headL_len (k : Nat) {n : Nat} (h : n < 4611686018427387904) : (headL k n).length ≤ 10 := by
  unfold headL
  split
  · simp
  · have := lebL_len (n := n / 16) (by omega)
    simp; omega
theorem headL_pos (k n : Nat) : 0 < (headL k n).length := by unfold headL; split <;> simp
theorem headL_mono (k n m : Nat) (h : n ≤ m) : (headL k n).length ≤ (headL k m).length := by
  unfold headL
  split
  · split <;> simp
  · rw [if_neg (by omega)]
    have := lebL_mono (n / 16) (m / 16) (by omega)
    simp; omega
end Go.Proofs.YtlkaaoekbmegkaaGreatDoor
/- Decimal texts, as plain lists: what is written, what is read, by the program and by the document. -/
namespace Go.Proofs.YtlkaaoekbmegkaaGreatDoor
set_option linter.all false
open Go.RowKit
open Go.Lib (decDigits itoa atoiAll parseUint10 parseMag nDigits)
def dc (d : Nat) : UInt8 := UInt8.ofNat (48 + d)
theorem dc_toNat {d : Nat} (h : d < 10) : (dc d).toNat = 48 + d := by simp [dc]; omega
theorem dc_of {c : UInt8} (h : 48 ≤ c.toNat) (h' : c.toNat ≤ 57) : dc (c.toNat - 48) = c := by
  apply UInt8.toNat_inj.1; rw [dc_toNat (by omega)]; omega
theorem decD_small {n : Nat} (h : n < 10) : decDigits n = [dc n] := by rw [decDigits, dif_pos h]; rfl
theorem decD_big {n : Nat} (h : 10 ≤ n) : decDigits n = decDigits (n / 10) ++ [dc (n % 10)] := by rw [decDigits, dif_neg (by omega)]; rfl
theorem decD_pos (n : Nat) : 0 < (decDigits n).length := by
  by_cases h : n < 10
  · rw [decD_small h]; simp
  · rw [decD_big (by omega)]; simp
theorem decD_pow (k n : Nat) (h : n < 10 ^ (k + 1)) : (decDigits n).length ≤ k + 1 := by
  induction k generalizing n with
  | zero => rw [decD_small (by simpa using h)]; simp
  | succ k ih =>
    by_cases h1 : n < 10
    · rw [decD_small h1]; simp
    · rw [decD_big (by omega)]
      have := ih (n / 10) (by rw [Nat.pow_succ] at h; omega)
      simp; omega
theorem decD_mono (n m : Nat) (h : n ≤ m) : (decDigits n).length ≤ (decDigits m).length := by
  induction m using Nat.strongRecOn generalizing n with
  | _ m ih =>
    by_cases h1 : n < 10
    · rw [decD_small h1]; exact decD_pos m
    · rw [decD_big (n := n) (by omega), decD_big (n := m) (by omega)]
      have := ih (m / 10) (by omega) (n / 10) (by omega)
      simp; omega
/-- The first digit. -/
theorem decD_head (n : Nat) : ∃ d r, decDigits n = dc d :: r ∧ d < 10 ∧ (0 < n → 0 < d) ∧ (n < 10 → r = []) := by
  induction n using Nat.strongRecOn with
  | _ n ih =>
    by_cases h : n < 10
    · exact ⟨n, [], decD_small h, h, fun h => h, fun _ => rfl⟩
    · obtain ⟨d, r, e, h1, h2, _⟩ := ih (n / 10) (by omega)
      refine ⟨d, r ++ [dc (n % 10)], by rw [decD_big (by omega), e]; rfl, h1, fun _ => h2 (by omega), fun hh => absurd hh h⟩
theorem itoa_nat (n : Nat) : itoa (n : Int) = decDigits n := Lib.itoa_nonneg n
/-! ### What strconv.Atoi makes of digits -/
theorem pu_dec (n : Nat) (h : n < 18446744073709551616) (r : List UInt8) : parseUint10 0 (decDigits n ++ r) = parseUint10 n r := by
  induction n using Nat.strongRecOn generalizing r with
  | _ n ih =>
    by_cases h1 : n < 10
    · rw [decD_small h1]
      simp only [List.cons_append, List.nil_append, parseUint10, dc_toNat h1]
      rw [if_pos (by omega), if_neg (by omega), if_neg (by omega)]
      congr 1; omega
    · rw [decD_big (by omega), List.append_assoc, ih (n / 10) (by omega) (by omega)]
      have hd : n % 10 < 10 := by omega
      simp only [List.cons_append, List.nil_append, parseUint10, dc_toNat hd]
      rw [if_pos (by omega), if_neg (by omega), if_neg (by omega)]
      congr 1; omega
theorem atoi_dec (n : Nat) (h : n < 9223372036854775808) : atoiAll (decDigits n) = .ok (n : Int) := by
  obtain ⟨d, r, e, h1, _, _⟩ := decD_head n
  have hp : parseMag (decDigits n) = .ok n := by
    have := pu_dec n (by omega) []
    rw [List.append_nil] at this
    unfold parseMag
    rw [if_neg (by rw [e]; simp), this]; rfl
  have ht := dc_toNat h1
  rw [e] at hp ⊢
  unfold atoiAll
  simp only [ht]
  rw [if_neg (by omega), hp]
  simp only
  rw [if_neg (by omega), if_neg (by omega), if_neg (by omega)]
/-- The program's reading of a text. -/
def decV (s : List UInt8) : Option Nat :=
  match atoiAll s with
  | .ok v => if 0 ≤ v ∧ v < 4611686018427387904 ∧ itoa v = s then some v.toNat else none
  | _ => none
theorem decV_dec (n : Nat) (h : n < 4611686018427387904) : decV (decDigits n) = some n := by
  unfold decV
  rw [atoi_dec n (by omega)]
  simp only
  rw [if_pos ⟨by omega, by omega, itoa_nat n⟩]; rfl
theorem decV_some {s : List UInt8} {n : Nat} (h : decV s = some n) : s = decDigits n ∧ n < 4611686018427387904 := by
  unfold decV at h
  split at h
  · split at h
    · rename_i v _ hc
      obtain ⟨h1, h2, h3⟩ := hc
      injection h with h
      subst h
      refine ⟨?_, by omega⟩
      rw [← h3, ← itoa_nat, Int.toNat_of_nonneg h1]
    · cases h
  · cases h
/-! ### The document's reading -/
def rgo (acc : Nat) : List UInt8 → Option Nat
  | [] => some acc
  | c :: r => if c.toNat < 48 ∨ 57 < c.toNat then none else if (4611686018427387903 - (c.toNat - 48)) / 10 < acc then none else rgo (10 * acc + (c.toNat - 48)) r
def rdecV (s : List UInt8) : Option Nat := if s.length = 0 ∨ 19 < s.length ∨ (1 < s.length ∧ (s.getD 0 0).toNat = 48) then none else rgo 0 s
theorem rgo_dec (n : Nat) (h : n < 4611686018427387904) (r : List UInt8) : rgo 0 (decDigits n ++ r) = rgo n r := by
  induction n using Nat.strongRecOn generalizing r with
  | _ n ih =>
    by_cases h1 : n < 10
    · rw [decD_small h1]
      simp only [List.cons_append, List.nil_append, rgo, dc_toNat h1]
      rw [if_neg (by omega), if_neg (by omega)]
      congr 1; omega
    · rw [decD_big (by omega), List.append_assoc, ih (n / 10) (by omega) (by omega)]
      have hd : n % 10 < 10 := by omega
      simp only [List.cons_append, List.nil_append, rgo, dc_toNat hd]
      rw [if_neg (by omega), if_neg (by omega)]
      congr 1; omega
theorem rgo_back : ∀ (l : List UInt8) (acc n : Nat), 1 ≤ acc → acc < 4611686018427387904 → rgo acc l = some n → decDigits acc ++ l = decDigits n ∧ n < 4611686018427387904 := by
  intro l
  induction l with
  | nil => intro acc n _ h2 h; simp only [rgo, Option.some.injEq] at h; subst h; exact ⟨List.append_nil _, h2⟩
  | cons c r ih =>
    intro acc n h1 h2 h
    simp only [rgo] at h
    split at h
    · cases h
    · split at h
      · cases h
      · obtain ⟨k1, k2⟩ := ih _ n (by omega) (by omega) h
        refine ⟨?_, k2⟩
        rw [← k1, decD_big (n := 10 * acc + _) (by omega), show (10 * acc + (c.toNat - 48)) / 10 = acc by omega, show (10 * acc + (c.toNat - 48)) % 10 = c.toNat - 48 by omega, dc_of (by omega) (by omega), List.append_assoc]
        rfl
theorem rdecV_eq (s : List UInt8) : rdecV s = decV s := by
  have some_of : ∀ n, n < 4611686018427387904 → rdecV (decDigits n) = some n := by
    intro n hn
    obtain ⟨d, r, e, h1, h2, h3⟩ := decD_head n
    have hl := decD_pow 18 n (by omega)
    unfold rdecV
    rw [if_neg, ← List.append_nil (decDigits n), rgo_dec n hn]
    · rfl
    · rintro (h | h | ⟨h, k⟩)
      · have := decD_pos n; omega
      · omega
      · rw [e] at k h
        simp only [List.getD_cons_zero, dc_toNat h1] at k
        by_cases hn : n < 10
        · rw [h3 hn] at h; simp at h
        · have := h2 (by omega); omega
  cases h : decV s with
  | some n =>
    obtain ⟨rfl, hn⟩ := decV_some h
    exact some_of n hn
  | none =>
    cases h' : rdecV s with
    | none => rfl
    | some n =>
      exfalso
      unfold rdecV at h'
      split at h'
      · cases h'
      · rename_i hc
        cases s with
        | nil => exact hc (.inl rfl)
        | cons c r =>
          simp only [rgo] at h'
          split at h'
          · cases h'
          · split at h'
            · cases h'
            · rename_i hd hb
              by_cases hr : r = []
              · subst hr
                simp only [rgo, Option.some.injEq] at h'
                have e : [c] = decDigits n := by rw [← h', decD_small (by omega), show 10 * 0 + (c.toNat - 48) = c.toNat - 48 by omega, dc_of (by omega) (by omega)]
                rw [e, decV_dec n (by omega)] at h; cases h
              · have hlen : 1 < (c :: r).length := by have := List.length_pos_iff.2 hr; simp; omega
                have hne : c.toNat ≠ 48 := fun e => hc (.inr (.inr ⟨hlen, e⟩))
                obtain ⟨k1, k2⟩ := rgo_back r _ n (by omega) (by omega) h'
                rw [decD_small (by omega), show 10 * 0 + (c.toNat - 48) = c.toNat - 48 by omega, dc_of (by omega) (by omega)] at k1
                rw [show c :: r = [c] ++ r from rfl, k1, decV_dec n k2] at h; cases h
theorem decV_minus (n : Nat) : decV (45 :: decDigits n) = none := by
  cases h : decV (45 :: decDigits n) with
  | none => rfl
  | some m =>
    obtain ⟨e, _⟩ := decV_some h
    obtain ⟨d, r, e2, h1, _, _⟩ := decD_head m
    rw [e2] at e
    injection e with e _
    have := congrArg UInt8.toNat e
    rw [dc_toNat h1] at this
    have h45 : (45 : UInt8).toNat = 45 := rfl
    omega
theorem decV_nought (n : Nat) : decV (48 :: decDigits n) = none := by
  cases h : decV (48 :: decDigits n) with
  | none => rfl
  | some m =>
    obtain ⟨e, _⟩ := decV_some h
    obtain ⟨d, r, e2, h1, h2, h3⟩ := decD_head m
    have hp := decD_pos n
    have hl := congrArg List.length e
    rw [e2] at e hl
    injection e with e _
    have := congrArg UInt8.toNat e
    rw [dc_toNat h1] at this
    have h48 : (48 : UInt8).toNat = 48 := rfl
    by_cases hm : m < 10
    · rw [h3 hm] at hl; simp only [List.length_cons, List.length_nil] at hl; omega
    · have := h2 (by omega); omega
end Go.Proofs.YtlkaaoekbmegkaaGreatDoor
/- strconv.Itoa and bits.Len64 as contracts. -/
namespace Go.Proofs.YtlkaaoekbmegkaaGreatDoor
set_option linter.all false
open Go.RowKit
open Go.Lib (itoa)
open Go.Sort (grow)
theorem tab_of {w : World} {S : Nat → Prop} (h : GlobOk w S) : Lib.TabIs Tryz.prog w "internal/strconv.uint64pow10" .u64 Lib.pow10Tab := by
  obtain ⟨_, us, t, fr, h2, _, h4⟩ := h.1 5 20 (.blob (Lib.pow10Tab.map fun z => .int .u64 z)) (by kernel_rfl)
  have h5 : us = Lib.pow10Tab.map fun z => Value.int .u64 z := by cases h2; rfl
  unfold Lib.TabIs World.var?
  rw [show Tryz.prog.globalNamed "internal/strconv.uint64pow10" = some 5 by kernel_rfl]
  simp only [Option.bind_some, h4, h5]
theorem below_grow (w : World) (k : Nat) (os : Array Obj) : Below w.heap.size w (grow (w.drewN k) os) := by
  have e : ∀ k, (w.drewN k).heap = w.heap ∧ (w.drewN k).os = w.os ∧ (w.drewN k).tape = w.tape ∧ (w.drewN k).output = w.output := by
    intro k
    induction k with
    | zero => exact ⟨rfl, rfl, rfl, rfl⟩
    | succ k ih => simpa [World.drewN] using ih
  obtain ⟨e1, e2, e3, e4⟩ := e k
  refine ⟨by simp [grow, e2], by simp [grow, e3], by simp [grow, e4], by simp [grow, e1], fun j hj => ?_⟩
  simp [grow, e1, Array.getElem?_append_left hj]
def itoaS : Spec := fun xs hp => match xs, hp with
  | [.int .i64 n], [] => some ⟨.str (itoa n), [], inI n⟩
  | _, _ => none
theorem itoa_ok : FnOk Tryz.prog 68 itoaS := by
  refine fnok_of_calls fun xs0 hp r hs hp' => ?_
  unfold itoaS at hs
  split at hs
  · rename_i n
    injection hs with hs; subst hs
    refine ⟨rfl, rfl, fun w S ρ args hS ha => ?_⟩
    obtain ⟨v, vs, rfl, hv, hr⟩ := ha.get _ _ rfl
    obtain rfl := hr.none
    rw [hv.int]
    refine (Tryz.strconv_Itoa n hp'.1 hp'.2 w (tab_of ha.glob)).mono ?_
    rintro e w' ⟨rfl, k, os, rfl⟩
    exact ⟨_, rfl, below_grow w k os, fun _ _ _ => Vl.str' _⟩
  · cases hs
def len64S : Spec := fun xs hp => match xs, hp with
  | [.int .u64 n], [] => some ⟨.int .i64 (Lib.bitLen n.toNat : Int), [], 0 ≤ n ∧ n ≤ 18446744073709551615⟩
  | _, _ => none
theorem len64_ok : FnOk Tryz.prog 121 len64S := by
  refine fnok_of_calls fun xs0 hp r hs hp' => ?_
  unfold len64S at hs
  split at hs
  · rename_i n
    injection hs with hs; subst hs
    refine ⟨rfl, rfl, fun w S ρ args hS ha => ?_⟩
    obtain ⟨v, vs, rfl, hv, hr⟩ := ha.get _ _ rfl
    obtain rfl := hr.none
    rw [hv.int]
    refine (Tryz.bits_Len64 n w hp'.1 hp'.2).mono ?_
    rintro e w' ⟨rfl, rfl⟩
    exact ⟨_, rfl, Below.refl _ _, fun _ _ _ => Vl.int' _ _⟩
  · cases hs
end Go.Proofs.YtlkaaoekbmegkaaGreatDoor
/- nums.Dec as a contract. -/
namespace Go.Proofs.YtlkaaoekbmegkaaGreatDoor
set_option linter.all false
open Go.RowKit
/-! tramway/nums.Dec -/
def c_ndec : ACode := (.seq (.reg none [⟨(some 2), (.mv (.c (.str []))), none⟩]) (.seq (.reg none [⟨(some 3), (.mv (.t 0)), none⟩, ⟨(some 4), (.call 68 [(.t 3)]), none⟩, ⟨(some 2), (.mv (.t 4)), none⟩]) .ret))
def r_ndec : List ARes := [(.t 2)]
theorem s_ndec : slimF Tryz.prog Tryz.f41 = some (c_ndec, r_ndec) := by kernel_rfl
theorem ndec_ok : FnOk Tryz.prog 41 itoaS := by
  refine fn_slim2 Tryz.func41 s_ndec (Φ := phiL [(68, [], itoaS)]) (phi_cons itoa_ok (by kernel_rfl) phi_nil) ?_
  intro xs hp r hs hp'
  unfold itoaS at hs
  split at hs
  · injection hs with hs; subst hs
    rename_i k
    refine ⟨len_le (by kernel_rfl), ?_⟩
    simp only [c_ndec, r_ndec, itoaS, go_sem, Nat.reduceDiv, Nat.reduceMod, ↓reduceIte, Nat.reduceEqDiff, Nat.reduceBEq, Nat.reduceSub, Nat.reduceLT, Nat.reduceAdd, Nat.reduceLeDiff, reduceCtorEq, Int.reduceEq, Int.reduceNe, Int.reduceLT, Int.reduceLE, Int.reduceToNat]
    first | exact hp' | exact ⟨hp', rfl⟩ | trivial
  · cases hs
end Go.Proofs.YtlkaaoekbmegkaaGreatDoor
/- Plain words of layers 6 and 15: big-endian numbers, what a patch's bytes are, what becomes of a base. No program here. -/
namespace Go.Proofs.YtlkaaoekbmegkaaGreatDoor
set_option linter.all false
open Go.RowKit

/-- The k lowest bytes of a number, the highest first. -/
def be : Nat → Nat → List UInt8
  | 0, _ => []
  | k + 1, n => byteOf ((n / 256 ^ k % 256 : Nat) : Int) :: be k n
theorem be_len (k n : Nat) : (be k n).length = k := by induction k with | zero => rfl | succ k ih => simp [be, ih]

theorem be_get (k n : Nat) : ∀ i, i < k → (be k n)[i]? = some (byteOf ((n / 256 ^ (k - 1 - i) % 256 : Nat) : Int)) := by
  induction k with
  | zero => intro i h; omega
  | succ k ih =>
    intro i h
    cases i with
    | zero => simp [be]
    | succ i =>
      simp only [be, List.getElem?_cons_succ]
      rw [ih i (by omega)]
      congr 6
      omega
theorem be_step (k n m : Nat) (h1 : 1 ≤ m) (h2 : m ≤ k) : (be k n).take (k - m) ++ [byteOf ((n : Int) / 2 ^ (8 * (m - 1)) % 256)] = (be k n).take (k - (m - 1)) := by
  rw [show k - (m - 1) = (k - m) + 1 by omega, List.take_add_one, be_get k n _ (by omega)]
  have e : (n : Int) / 2 ^ (8 * (m - 1)) % 256 = ((n / 256 ^ (k - 1 - (k - m)) % 256 : Nat) : Int) := by
    rw [show k - 1 - (k - m) = m - 1 by omega, Int.natCast_emod, Int.natCast_ediv, Int.natCast_pow, show ((256 : Nat) : Int) = 2 ^ 8 from rfl, ← Int.pow_mul]
    rfl
  rw [e]
  rfl

/-- The number of a row of bytes, the highest first. -/
def beVal (l : List UInt8) : Nat := l.foldl (fun n b => n * 256 + b.toNat) 0
theorem beVal_snoc (l : List UInt8) (k : Nat) (h : k < l.length) : ((beVal (l.take (k + 1)) : Nat) : Int) = (beVal (l.take k) : Int) * 256 + at8 l k := by
  rw [List.take_succ_eq_append_getElem h]
  unfold beVal
  rw [List.foldl_append]
  simp [at8, List.getD, h]
theorem beVal_lt (l : List UInt8) : beVal l < 256 ^ l.length := by
  have g : ∀ (l : List UInt8) (a b : Nat), a < b → l.foldl (fun n b => n * 256 + b.toNat) a < b * 256 ^ l.length := by
    intro l
    induction l with
    | nil => intro a b h; simpa using h
    | cons x l ih =>
      intro a b h
      simp only [List.foldl_cons, List.length_cons]
      have hx := x.toNat_lt
      have := ih (a * 256 + x.toNat) (b * 256) (by omega)
      rwa [Nat.mul_assoc, ← Nat.pow_succ'] at this
  have := g l 0 1 (by omega)
  simpa [beVal] using this
theorem beVal_take_lt (l : List UInt8) (k : Nat) (hk : k ≤ 7) : (beVal (l.take k) : Int) ≤ 72057594037927935 := by
  have h1 := beVal_lt (l.take k)
  have h2 : 256 ^ (l.take k).length ≤ 256 ^ 7 := Nat.pow_le_pow_right (by omega) (by rw [List.length_take]; omega)
  omega

/-! ### What a patch's bytes are -/
structure Hk where
  fr : Nat
  tt : Nat
  b : List UInt8

/-- A patch's hunks; 'none': it ends within one. -/
def parse : Nat → List UInt8 → List (Option Hk)
  | 0, _ => []
  | f + 1, l => if l.length = 0 then [] else if l.length < 12 then [none] else if l.length - 12 < beVal ((l.take 12).drop 8) then [none] else
      some ⟨beVal ((l.take 4).drop 0), beVal ((l.take 8).drop 4), (l.take (12 + beVal ((l.take 12).drop 8))).drop 12⟩ :: parse f (l.drop (12 + beVal ((l.take 12).drop 8)))

theorem parse_fuel : ∀ (f g : Nat) (l : List UInt8), l.length ≤ f → l.length ≤ g → parse f l = parse g l := by
  intro f
  induction f with
  | zero =>
    intro g l hf hg
    have : l = [] := List.eq_nil_of_length_eq_zero (by omega)
    subst this
    cases g <;> simp [parse]
  | succ f ih =>
    intro g l hf hg
    cases g with
    | zero =>
      have : l = [] := List.eq_nil_of_length_eq_zero (by omega)
      subst this
      simp [parse]
    | succ g =>
      simp only [parse]
      split
      · rfl
      · split
        · rfl
        · split
          · rfl
          · rw [ih g _ (by rw [List.length_drop]; omega) (by rw [List.length_drop]; omega)]

theorem parse_more (rest : List UInt8) (h12 : ¬ rest.length < 12) (x3 : Nat) (hx : x3 = beVal ((rest.take 12).drop 8)) (h : ¬ rest.length - 12 < x3) :
    parse rest.length rest = some ⟨beVal ((rest.take 4).drop 0), beVal ((rest.take 8).drop 4), (rest.take (12 + x3)).drop 12⟩ :: parse (rest.drop (12 + x3)).length (rest.drop (12 + x3)) := by
  obtain ⟨k, hk⟩ : ∃ k, rest.length = k + 1 := ⟨rest.length - 1, by omega⟩
  have e : parse (k + 1) rest = some ⟨beVal ((rest.take 4).drop 0), beVal ((rest.take 8).drop 4), (rest.take (12 + x3)).drop 12⟩ :: parse k (rest.drop (12 + x3)) := by
    simp only [parse]
    rw [if_neg (by omega), if_neg h12, if_neg (by rw [← hx]; exact h), ← hx]
  rw [hk, e, parse_fuel k _ _ (by rw [List.length_drop]; omega) (Nat.le_refl _)]

/-- What becomes of a base by hunks, from a place on; or the error. -/
def applyGo (base : List UInt8) : List (Option Hk) → Nat → List UInt8 → Except Nat (List UInt8)
  | [], k, out => .ok (out ++ base.drop k)
  | none :: _, _, _ => .error 3
  | some h :: r, k, out => if h.tt < h.fr ∨ base.length < h.tt ∨ h.fr < k then .error 4 else applyGo base r h.tt (out ++ (base.take h.fr).drop k ++ h.b)

/-- Apply's answer. -/
def applyRes (base p : List UInt8) (most : Int) : List UInt8 × Nat :=
  match applyGo base (parse p.length p) 0 [] with
  | .error e => ([], e)
  | .ok x => if most < (x.length : Int) then ([], 2) else (x, 0)

def sumB : List (Option Hk) → Nat
  | [] => 0
  | none :: r => sumB r
  | some h :: r => h.b.length + sumB r
theorem sumB_append (a b : List (Option Hk)) : sumB (a ++ b) = sumB a + sumB b := by
  induction a with
  | nil => simp [sumB]
  | cons x a ih => cases x <;> simp [sumB, ih] <;> omega
theorem sumB_parse : ∀ (f : Nat) (l : List UInt8), sumB (parse f l) ≤ l.length := by
  intro f
  induction f with
  | zero => intro l; simp [parse, sumB]
  | succ f ih =>
    intro l
    simp only [parse]
    split
    · simp [sumB]
    · split
      · simp [sumB]
      · split
        · simp [sumB]
        · have := ih (l.drop (12 + beVal ((l.take 12).drop 8)))
          simp only [sumB, List.length_drop, List.length_take] at this ⊢
          omega
theorem sumB_pre {a : List (Option Hk)} {l : List UInt8} (h : a <+: parse l.length l) : sumB a ≤ l.length := by
  obtain ⟨r, hr⟩ := h
  have h1 := sumB_parse l.length l
  rw [← hr, sumB_append] at h1
  omega


/-! ### Hunks in memory -/
structure HRec where
  f : Int
  t : Int
  A : Option Addr
  c : Nat
  b : List UInt8
def HRec.cells (h : HRec) : List Value := [.int .i64 h.f, .int .i64 h.t, .slice h.A h.b.length h.c]
def hcells (hs : List HRec) : List Value := hs.flatMap HRec.cells
theorem hcells_len (hs : List HRec) : (hcells hs).length = hs.length * 3 := by
  induction hs with
  | nil => rfl
  | cons h hs ih => simp only [hcells, List.flatMap_cons, List.length_append] at ih ⊢; rw [ih]; simp [HRec.cells]; omega
theorem hcells_get (hs : List HRec) (i k : Nat) (hi : i < hs.length) (hk : k < 3) : (hcells hs)[i * 3 + k]? = hs[i].cells[k]? := by
  induction hs generalizing i with
  | nil => simp at hi
  | cons h hs ih =>
    have hl : h.cells.length = 3 := rfl
    show (h.cells ++ hcells hs)[i * 3 + k]? = _
    cases i with
    | zero => rw [List.getElem?_append_left (by omega)]; simp
    | succ i =>
      rw [List.getElem?_append_right (by omega), hl, show (i + 1) * 3 + k - 3 = i * 3 + k by omega, ih i (by simpa using hi)]
      rfl
theorem hcells_one (hs : List HRec) : ∀ u ∈ hcells hs, u.oneCell' = true := by
  intro u hu
  obtain ⟨h, _, hu⟩ := List.mem_flatMap.1 hu
  simp [HRec.cells] at hu
  rcases hu with rfl | rfl | rfl <;> rfl
/-- Hunks that lie at an address. -/
def RdH (w : World) (A : Option Addr) (hs : List HRec) : Prop := RdR w A (hcells hs) ∧ ∀ h ∈ hs, Rd w h.A h.b
theorem RdH.at_ {w : World} {A : Option Addr} {hs : List HRec} (h : RdH w A hs) (hl : 0 < hs.length) : ∃ b o, A = some ⟨b, o, none⟩ ∧ b < w.heap.size ∧
    ∀ i (hi : i < hs.length), w.cell? ⟨b, o + i * 3, none⟩ = some (.int .i64 hs[i].f) ∧ w.cell? ⟨b, o + i * 3 + 1, none⟩ = some (.int .i64 hs[i].t) ∧ w.cell? ⟨b, o + i * 3 + 2, none⟩ = some (.slice hs[i].A hs[i].b.length hs[i].c) := by
  obtain ⟨b, o, e, hb, hc⟩ := h.1.at_ (by rw [hcells_len]; omega)
  refine ⟨b, o, e, hb, fun i hi => ⟨?_, ?_, ?_⟩⟩
  · exact hc (i * 3) _ (by have := hcells_get hs i 0 hi (by omega); simpa [HRec.cells] using this)
  · rw [Nat.add_assoc]; exact hc (i * 3 + 1) _ (by rw [hcells_get hs i 1 hi (by omega)]; rfl)
  · rw [Nat.add_assoc]; exact hc (i * 3 + 2) _ (by rw [hcells_get hs i 2 hi (by omega)]; rfl)
theorem RdH.ext {w w' : World} {A : Option Addr} {hs : List HRec} (h : RdH w A hs) (hb : Below w.heap.size w w') : RdH w' A hs := ⟨h.1.ext hb, fun x hx => (h.2 x hx).ext hb⟩

def u64 (x : Int) : Nat := (x % 18446744073709551616).toNat
def HRec.print (h : HRec) : List UInt8 := be 4 (u64 h.f) ++ be 4 (u64 h.t) ++ be 4 h.b.length ++ h.b
def printB (hs : List HRec) : List UInt8 := hs.flatMap HRec.print
def bodyLen (hs : List HRec) : Nat := (hs.map fun h => h.b.length).sum
theorem printB_len (hs : List HRec) : (printB hs).length = 12 * hs.length + bodyLen hs := by
  induction hs with
  | nil => rfl
  | cons h hs ih => simp only [printB, List.flatMap_cons, List.length_append, bodyLen, List.map_cons, List.sum_cons, List.length_cons] at ih ⊢; rw [ih]; simp [HRec.print, be_len]; omega
theorem printB_take (hs : List HRec) (i : Nat) (hi : i < hs.length) : printB (hs.take (i + 1)) = printB (hs.take i) ++ be 4 (u64 hs[i].f) ++ be 4 (u64 hs[i].t) ++ be 4 hs[i].b.length ++ hs[i].b := by
  rw [List.take_succ_eq_append_getElem hi]
  simp only [printB, List.flatMap_append, List.flatMap_cons, List.flatMap_nil, List.append_nil, HRec.print, List.append_assoc]
theorem bodyLen_take (hs : List HRec) (i : Nat) : bodyLen (hs.take i) ≤ bodyLen hs := by
  induction hs generalizing i with
  | nil => simp [bodyLen]
  | cons h hs ih =>
    cases i with
    | zero => simp [bodyLen]
    | succ i => have := ih i; simp [bodyLen] at this ⊢; omega
theorem bodyLen_get (hs : List HRec) (i : Nat) (hi : i < hs.length) : hs[i].b.length ≤ bodyLen hs := by
  induction hs generalizing i with
  | nil => simp at hi
  | cons h hs ih =>
    cases i with
    | zero => simp [bodyLen]
    | succ i => have := ih i (by simpa using hi); simp [bodyLen] at this ⊢; omega
/-- What a round is handed: a hunk, or the error. -/
structure HkV where
  err : Bool
  fr : Nat
  tt : Nat
  A : Option Addr
  c : Nat
  b : List UInt8

def HkV.el (x : HkV) : Option Hk := if x.err then none else some ⟨x.fr, x.tt, x.b⟩

def HkV.toRec (x : HkV) : HRec := ⟨x.fr, x.tt, x.A, x.c, x.b⟩

/-- Hunks that follow one another from k on. -/
def Valid (n : Nat) : Nat → List HkV → Prop
  | k, [] => k ≤ n
  | k, h :: r => k ≤ h.fr ∧ h.fr ≤ h.tt ∧ h.tt ≤ n ∧ Valid n h.tt r
/-- The place where the last of them ends. -/
def endK : Nat → List HkV → Nat
  | k, [] => k
  | _, h :: r => endK h.tt r
/-- What becomes of the base from k on, as far as they reach. -/
def fwd (base : List UInt8) : Nat → List HkV → List UInt8
  | _, [] => []
  | k, h :: r => (base.take h.fr).drop k ++ h.b ++ fwd base h.tt r
theorem Valid.le {n : Nat} : ∀ {hs : List HkV} {k : Nat}, Valid n k hs → k ≤ n
  | [], _, h => h
  | _ :: _, _, h => by have := h.1; have := h.2.1; have := h.2.2.1; omega
theorem Valid.end_ {n : Nat} {hs : List HkV} : ∀ {k : Nat}, Valid n k hs → endK k hs ≤ n := by
  induction hs with
  | nil => intro k h; exact h
  | cons x r ih => intro k h; exact ih h.2.2.2
theorem Valid.snoc {n : Nat} (x : HkV) : ∀ {hs : List HkV} {k : Nat}, Valid n k hs → endK k hs ≤ x.fr → x.fr ≤ x.tt → x.tt ≤ n → Valid n k (hs ++ [x])
  | [], _, _, h1, h2, h3 => ⟨h1, h2, h3, h3⟩
  | _ :: _, _, h, h1, h2, h3 => ⟨h.1, h.2.1, h.2.2.1, Valid.snoc x h.2.2.2 h1 h2 h3⟩
theorem endK_snoc (x : HkV) : ∀ (hs : List HkV) (k : Nat), endK k (hs ++ [x]) = x.tt
  | [], _ => rfl
  | _ :: r, _ => endK_snoc x r _
theorem fwd_snoc (base : List UInt8) (x : HkV) : ∀ (hs : List HkV) (k : Nat), fwd base k (hs ++ [x]) = fwd base k hs ++ (base.take x.fr).drop (endK k hs) ++ x.b
  | [], k => by simp [fwd, endK]
  | h :: r, k => by simp only [List.cons_append, fwd, endK]; rw [fwd_snoc base x r h.tt]; simp [List.append_assoc]
/-- From behind: one hunk at a time. -/
def backStep (h : HkV) (out : List UInt8) : List UInt8 := out.take h.fr ++ h.b ++ out.drop h.tt
def back (base : List UInt8) (hs : List HkV) : List UInt8 := hs.foldr backStep base
theorem back_eq (base : List UInt8) : ∀ (hs : List HkV) (k : Nat), Valid base.length k hs → back base hs = base.take k ++ (fwd base k hs ++ base.drop (endK k hs))
  | [], k, _ => by simp [back, fwd, endK]
  | h :: r, k, hv => by
    obtain ⟨h1, h2, h3, h4⟩ := hv
    have ih := back_eq base r h.tt h4
    show backStep h (back base r) = _
    rw [ih]
    unfold backStep
    have e1 : (base.take h.tt ++ (fwd base h.tt r ++ base.drop (endK h.tt r))).take h.fr = base.take h.fr := by
      rw [List.take_append_of_le_length (by rw [List.length_take]; omega), List.take_take, Nat.min_eq_left h2]
    have e2 : (base.take h.tt ++ (fwd base h.tt r ++ base.drop (endK h.tt r))).drop h.tt = fwd base h.tt r ++ base.drop (endK h.tt r) := by
      rw [List.drop_append_of_le_length (by rw [List.length_take]; omega), List.drop_eq_nil_of_le (by rw [List.length_take]; omega), List.nil_append]
    rw [e1, e2]
    have e3 : base.take h.fr = base.take k ++ (base.take h.fr).drop k := by
      conv => lhs; rw [← List.take_append_drop k (base.take h.fr)]
      rw [List.take_take, Nat.min_eq_left h1]
    conv => lhs; rw [e3]
    simp [fwd, endK, List.append_assoc]
theorem back_len (base : List UInt8) (hs : List HkV) (k : Nat) (hv : Valid base.length k hs) : k ≤ (back base hs).length := by
  rw [back_eq base hs k hv, List.length_append, List.length_take]
  have := hv.le
  omega
theorem back_drop (base : List UInt8) (hs : List HkV) (i : Nat) (hi : i < hs.length) : back base (hs.drop i) = backStep hs[i] (back base (hs.drop (i + 1))) := by
  rw [List.drop_eq_getElem_cons hi]; rfl
theorem Valid.at_ {n : Nat} : ∀ {hs : List HkV} {k : Nat}, Valid n k hs → ∀ i (hi : i < hs.length), hs[i].fr ≤ hs[i].tt ∧ hs[i].tt ≤ n ∧ Valid n hs[i].tt (hs.drop (i + 1))
  | [], _, _, _, hi => absurd hi (by simp)
  | h :: r, _, hv, 0, _ => ⟨hv.2.1, hv.2.2.1, hv.2.2.2⟩
  | h :: r, _, hv, i + 1, hi => Valid.at_ hv.2.2.2 i (by simpa using hi)
def blen (hs : List HkV) : Nat := (hs.map fun h => h.b.length).sum
theorem blen_snoc (hs : List HkV) (x : HkV) : blen (hs ++ [x]) = blen hs + x.b.length := by simp [blen]
theorem Valid.all {n : Nat} {hs : List HkV} : ∀ {k : Nat}, Valid n k hs → ∀ h ∈ hs, h.fr ≤ h.tt := by
  induction hs with
  | nil => intro k _ h hh; cases hh
  | cons x r ih =>
    intro k hv h hh
    rcases List.mem_cons.1 hh with rfl | hh
    · exact hv.2.1
    · exact ih hv.2.2.2 h hh
theorem back_len_le (base : List UInt8) (hs : List HkV) (i : Nat) (hv : ∀ h ∈ hs, h.fr ≤ h.tt) : (back base (hs.drop i)).length ≤ base.length + blen hs := by
  have g : ∀ l : List HkV, (∀ h ∈ l, h.fr ≤ h.tt) → (back base l).length ≤ base.length + blen l := by
    intro l
    induction l with
    | nil => intro _; simp [back, blen]
    | cons h r ih =>
      intro hl
      have e : back base (h :: r) = backStep h (back base r) := rfl
      have h1 := hl h (by simp)
      have h2 := ih (fun x hx => hl x (by simp [hx]))
      rw [e]
      simp only [backStep, List.length_append, List.length_take, List.length_drop, blen, List.map_cons, List.sum_cons] at h2 ⊢
      omega
  have g2 : ∀ (l : List HkV) (i : Nat), blen (l.drop i) ≤ blen l := by
    intro l
    induction l with
    | nil => intro i; simp [blen]
    | cons h r ih =>
      intro i
      cases i with
      | zero => simp
      | succ i => have := ih i; simp [blen] at this ⊢; omega
  exact Nat.le_trans (g _ (fun h hh => hv h (List.mem_of_mem_drop hh))) (Nat.add_le_add_left (g2 hs i) _)
theorem blen_get (hs : List HkV) (i : Nat) (hi : i < hs.length) : hs[i].b.length ≤ blen hs := by
  induction hs generalizing i with
  | nil => simp at hi
  | cons h hs ih =>
    cases i with
    | zero => simp [blen]
    | succ i => have := ih i (by simpa using hi); simp [blen] at this ⊢; omega
theorem cut_drop (p : List UInt8) (k i j : Nat) : ((p.drop k).take j).drop i = (p.take (k + j)).drop (k + i) := by
  rw [List.take_drop, List.drop_drop]
/-- Four bytes' number at a place. -/
def num4 (p : List UInt8) (k : Nat) : Nat := beVal ((p.take (k + 4)).drop k)
theorem num4_lt (p : List UInt8) (k : Nat) (h : k + 4 ≤ p.length) : num4 p k < 4294967296 := by
  have := beVal_lt ((p.take (k + 4)).drop k)
  rw [part_len _ _ _ h, show k + 4 - k = 4 by omega] at this
  unfold num4
  omega
/-- One step of 'parse' at a place. -/
theorem parse_at (p : List UInt8) (k : Nat) (h12 : 12 ≤ p.length - k) :
    parse (p.drop k).length (p.drop k) = if p.length - k - 12 < num4 p (k + 8) then [none] else
      some ⟨num4 p k, num4 p (k + 4), (p.take (k + 12 + num4 p (k + 8))).drop (k + 12)⟩ :: parse (p.drop (k + 12 + num4 p (k + 8))).length (p.drop (k + 12 + num4 p (k + 8))) := by
  have hl : (p.drop k).length = p.length - k := List.length_drop
  have e8 : beVal (((p.drop k).take 12).drop 8) = num4 p (k + 8) := by rw [cut_drop]; rfl
  by_cases h : p.length - k - 12 < num4 p (k + 8)
  · rw [if_pos h]
    obtain ⟨m, hm⟩ : ∃ m, (p.drop k).length = m + 1 := ⟨p.length - k - 1, by omega⟩
    rw [hm]; simp only [parse]; rw [if_neg (by omega), if_neg (by omega), if_pos (by rw [hl, e8]; exact h)]
  · rw [if_neg h, parse_more (p.drop k) (by omega) (num4 p (k + 8)) e8.symm (by rw [hl]; exact h)]
    rw [cut_drop, cut_drop, cut_drop, List.drop_drop]
    simp only [num4, Nat.add_assoc, Nat.add_zero]
end Go.Proofs.YtlkaaoekbmegkaaGreatDoor
