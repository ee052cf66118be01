/- Numbers as bytes and digits, as plain lists: big endian, sevens, offsets, heads, decimals. -/
import Derived.Test.YtjdlngbobnknmaaDoorAM3
import Derived.Lib.ItoaNum
import Derived.Lib.ItoaMem
import Derived.Lib.AtoiAll
import Derived.Laws.BitsAllLaws
namespace Go.Proofs.YtjdlngbobnknmaaDoor
set_option linter.all false
open Go.RowKit
def o8 (n : Nat) : UInt8 := UInt8.ofNat n
theorem o8_toNat (n : Nat) : (o8 n).toNat = n % 256 := by simp [o8]
theorem ub_o8 (n : Nat) : ub (o8 n) = .int .u8 ((n % 256 : Nat) : Int) := by simp [ub, o8_toNat]
theorem o8_mod (n : Nat) : o8 (n % 256) = o8 n := by apply UInt8.toNat_inj.1; simp [o8_toNat]
theorem o8_of (u : UInt8) : o8 u.toNat = u := by simp [o8]
theorem Bs_o8 (n : Nat) (h : n < 256) : [(.int .u8 (n : Int) : AV)] = Bs [o8 n] := by simp [Bs, ub_o8, Nat.mod_eq_of_lt h]
theorem i64_and (a b : Nat) (ha : a < 9223372036854775808) (hb : b < 9223372036854775808) : bits .and .i64 (a : Int) (b : Int) = ((a &&& b : Nat) : Int) := by
  have hx : a &&& b < 2 ^ 63 := Nat.and_lt_two_pow _ (by omega)
  have h1 : (BitVec.ofInt 64 (a : Int)).toNat = a := by
    rw [BitVec.ofInt_natCast, BitVec.toNat_ofNat]; exact Nat.mod_eq_of_lt (by omega)
  have h2 : (BitVec.ofInt 64 (b : Int)).toNat = b := by
    rw [BitVec.ofInt_natCast, BitVec.toNat_ofNat]; exact Nat.mod_eq_of_lt (by omega)
  show IntKind.i64.wrap ((BitVec.ofInt 64 (a : Int) &&& BitVec.ofInt 64 (b : Int)).toNat : Int) = _
  rw [BitVec.toNat_and, h1, h2, IntWalk.i64_in _ (by omega)]
theorem i64_or (a b : Nat) (ha : a < 9223372036854775808) (hb : b < 9223372036854775808) : bits .or .i64 (a : Int) (b : Int) = ((a ||| b : Nat) : Int) := by
  have hx : a ||| b < 2 ^ 63 := Nat.or_lt_two_pow (by omega) (by omega)
  have h1 : (BitVec.ofInt 64 (a : Int)).toNat = a := by
    rw [BitVec.ofInt_natCast, BitVec.toNat_ofNat]; exact Nat.mod_eq_of_lt (by omega)
  have h2 : (BitVec.ofInt 64 (b : Int)).toNat = b := by
    rw [BitVec.ofInt_natCast, BitVec.toNat_ofNat]; exact Nat.mod_eq_of_lt (by omega)
  show IntKind.i64.wrap ((BitVec.ofInt 64 (a : Int) ||| BitVec.ofInt 64 (b : Int)).toNat : Int) = _
  rw [BitVec.toNat_or, h1, h2, IntWalk.i64_in _ (by omega)]

theorem ub_wrap (n : Nat) : (.int .u8 (IntKind.u8.wrap (n : Int)) : AV) = ub (o8 n) := by
  rw [ub_o8, IntKind.wrap_u8']; rfl
theorem ub_low (n : Nat) (h : n < 256) : (.int .u8 (n : Int) : AV) = ub (o8 n) := by rw [ub_o8, Nat.mod_eq_of_lt h]
/-- A high bit set. -/
theorem or_high (x k : Nat) (h : x < 2 ^ k) : x ||| 2 ^ k = x + 2 ^ k := by
  rw [Nat.or_comm]
  have := nat_join k (2 ^ k) x (by simp) h
  omega
theorem or_128 (x : Nat) (h : x < 256) : x ||| 128 = x % 128 + 128 := by
  by_cases h1 : x < 128
  · rw [Nat.mod_eq_of_lt h1]; exact or_high x 7 (by omega)
  · have e : x = 128 ||| (x - 128) := by
      have := nat_join 7 128 (x - 128) (by decide) (by omega)
      omega
    have e2 : x % 128 = x - 128 := by omega
    rw [e2]
    conv => lhs; rw [e, Nat.or_comm, ← Nat.or_assoc, Nat.or_self]
    have := nat_join 7 128 (x - 128) (by decide) (by omega)
    omega

/-! ### Big endian -/
def beL (n : Nat) : Nat → List UInt8
  | 0 => []
  | k + 1 => beL (n / 256) k ++ [o8 n]
theorem beL_len (n k : Nat) : (beL n k).length = k := by
  induction k generalizing n with
  | zero => rfl
  | succ k ih => simp [beL, ih]
theorem beL_cons (n k : Nat) : beL n (k + 1) = o8 (n / 256 ^ k) :: beL n k := by
  induction k generalizing n with
  | zero => simp [beL]
  | succ k ih =>
    rw [beL, ih]
    simp only [beL, List.cons_append]
    rw [Nat.div_div_eq_div_mul, Nat.pow_succ, Nat.mul_comm]
/-- The number of bytes. -/
def beN : List UInt8 → Nat → Nat
  | [], a => a
  | u :: l, a => beN l (a * 256 + u.toNat)
theorem beN_append (l m : List UInt8) (a : Nat) : beN (l ++ m) a = beN m (beN l a) := by
  induction l generalizing a with
  | nil => rfl
  | cons u l ih => simp only [List.cons_append, beN, ih]
theorem beN_beL (n k : Nat) : beN (beL n k) 0 = n % 256 ^ k := by
  induction k generalizing n with
  | zero => simp [beL, beN, Nat.mod_one]
  | succ k ih =>
    rw [beL, beN_append, ih]
    simp only [beN, o8_toNat]
    have h1 := Nat.div_add_mod (n / 256) (256 ^ k)
    have h2 := Nat.div_add_mod n 256
    rw [Nat.pow_succ, Nat.mul_comm (256 ^ k) 256, Nat.mod_mul]
    omega

/-! ### Sevens, the lowest first -/
def lebL0 (n : Nat) : List UInt8 := if n < 128 then [o8 n] else o8 (n % 128 + 128) :: lebL0 (n / 128)
termination_by n
decreasing_by omega
theorem lebL_ex : ∃ f : Nat → List UInt8, ∀ n, f n = if n < 128 then [o8 n] else o8 (n % 128 + 128) :: f (n / 128) := ⟨lebL0, fun n => by rw [lebL0]⟩
/-- (Chosen, so that nothing unfolds it.) -/
noncomputable def lebL : Nat → List UInt8 := Classical.choose lebL_ex
theorem lebL_eq (n : Nat) : lebL n = if n < 128 then [o8 n] else o8 (n % 128 + 128) :: lebL (n / 128) := Classical.choose_spec lebL_ex n
theorem lebL_small {n : Nat} (h : n < 128) : lebL n = [o8 n] := by rw [lebL_eq, if_pos h]
theorem lebL_big {n : Nat} (h : 128 ≤ n) : lebL n = o8 (n % 128 + 128) :: lebL (n / 128) := by rw [lebL_eq, if_neg (by omega)]
theorem lebL_pos (n : Nat) : 0 < (lebL n).length := by
  by_cases h : n < 128
  · rw [lebL_small h]; simp
  · rw [lebL_big (by omega)]; simp
theorem lebL_pow (k n : Nat) (h : n < 128 ^ (k + 1)) : (lebL n).length ≤ k + 1 := by
  induction k generalizing n with
  | zero => rw [lebL_small (by simpa using h)]; simp
  | succ k ih =>
    by_cases h1 : n < 128
    · rw [lebL_small h1]; simp
    · rw [lebL_big (by omega)]
      have := ih (n / 128) (by rw [Nat.pow_succ] at h; omega)
      simp; omega
theorem lebL_len {n : Nat} (h : n < 4611686018427387904) : (lebL n).length ≤ 9 := lebL_pow 8 n (by omega)
theorem lebL_mono (n m : Nat) (h : n ≤ m) : (lebL n).length ≤ (lebL m).length := by
  induction m using Nat.strongRecOn generalizing n with
  | _ m ih =>
    by_cases h1 : n < 128
    · rw [lebL_small h1]; exact lebL_pos m
    · rw [lebL_big (n := n) (by omega), lebL_big (n := m) (by omega)]
      have := ih (m / 128) (by omega) (n / 128) (by omega)
      simp; omega

/-! ### Offsets -/
def ofsR0 (m : Nat) : List UInt8 := if m = 0 then [] else o8 ((m - 1) % 128 + 128) :: ofsR0 ((m - 1) / 128)
termination_by m
decreasing_by omega
theorem ofsR_ex : ∃ f : Nat → List UInt8, ∀ m, f m = if m = 0 then [] else o8 ((m - 1) % 128 + 128) :: f ((m - 1) / 128) := ⟨ofsR0, fun m => by rw [ofsR0]⟩
noncomputable def ofsR : Nat → List UInt8 := Classical.choose ofsR_ex
theorem ofsR_eq (m : Nat) : ofsR m = if m = 0 then [] else o8 ((m - 1) % 128 + 128) :: ofsR ((m - 1) / 128) := Classical.choose_spec ofsR_ex m
theorem ofsR_zero : ofsR 0 = [] := by rw [ofsR_eq, if_pos rfl]
theorem ofsR_pos {m : Nat} (h : 0 < m) : ofsR m = o8 ((m - 1) % 128 + 128) :: ofsR ((m - 1) / 128) := by rw [ofsR_eq, if_neg (by omega)]
noncomputable def ofsB (n : Nat) : List UInt8 := o8 (n % 128) :: ofsR (n / 128)
noncomputable def ofsL (n : Nat) : List UInt8 := (ofsB n).reverse
theorem ofsR_pow (k m : Nat) (h : m < 128 ^ k) : (ofsR m).length ≤ k := by
  induction k generalizing m with
  | zero => have : m = 0 := by simpa using h
            subst this; rw [ofsR_zero]; simp
  | succ k ih =>
    by_cases h1 : m = 0
    · subst h1; rw [ofsR_zero]; simp
    · rw [ofsR_pos (by omega)]
      have := ih ((m - 1) / 128) (by rw [Nat.pow_succ] at h; omega)
      simp; omega
theorem ofsB_len {n : Nat} (h : n < 4611686018427387904) : (ofsB n).length ≤ 9 := by
  have := ofsR_pow 8 (n / 128) (by omega)
  simp [ofsB]; omega
theorem ofsL_len {n : Nat} (h : n < 4611686018427387904) : (ofsL n).length ≤ 9 := by rw [ofsL, List.length_reverse]; exact ofsB_len h
theorem ofsL_pos (n : Nat) : 0 < (ofsL n).length := by simp [ofsL, ofsB]
theorem ofsR_mono (n m : Nat) (h : n ≤ m) : (ofsR n).length ≤ (ofsR m).length := by
  induction m using Nat.strongRecOn generalizing n with
  | _ m ih =>
    by_cases h1 : n = 0
    · subst h1; rw [ofsR_zero]; simp
    · rw [ofsR_pos (m := n) (by omega), ofsR_pos (m := m) (by omega)]
      have := ih ((m - 1) / 128) (by omega) ((n - 1) / 128) (by omega)
      simp; omega
theorem ofsL_mono (n m : Nat) (h : n ≤ m) : (ofsL n).length ≤ (ofsL m).length := by
  have := ofsR_mono (n / 128) (m / 128) (by omega)
  simp [ofsL, ofsB]; omega
theorem ofsL_small {n : Nat} (h : n < 128) : ofsL n = [o8 n] := by
  rw [ofsL, ofsB, Nat.div_eq_of_lt h, ofsR_zero, Nat.mod_eq_of_lt h]; rfl
theorem ofsL_big {n : Nat} (h : 128 ≤ n) : ofsL n = ((ofsR ((n / 128 - 1) / 128)).reverse ++ [o8 ((n / 128 - 1) % 128 + 128)]) ++ [o8 (n % 128)] := by
  rw [ofsL, ofsB, ofsR_pos (by omega), List.reverse_cons, List.reverse_cons]
theorem ofsL_eq (n : Nat) : ofsL n = (ofsR (n / 128)).reverse ++ [o8 (n % 128)] := by rw [ofsL, ofsB, List.reverse_cons]

/-! ### Heads -/
noncomputable def headL (k n : Nat) : List UInt8 := if n < 16 then [o8 (16 * k + n)] else o8 (128 + 16 * k + n % 16) :: lebL (n / 16)
theorem headL_len (k : Nat) {n : Nat} (h : n < 4611686018427387904) : (headL k n).length ≤ 10 := by
  unfold headL
  split
  · simp
  · have := lebL_len (n := n / 16) (by omega)
    simp; omega
theorem headL_pos (k n : Nat) : 0 < (headL k n).length := by unfold headL; split <;> simp
theorem headL_mono (k n m : Nat) (h : n ≤ m) : (headL k n).length ≤ (headL k m).length := by
  unfold headL
  split
  · split <;> simp
  · rw [if_neg (by omega)]
    have := lebL_mono (n / 16) (m / 16) (by omega)
    simp; omega
end Go.Proofs.YtjdlngbobnknmaaDoor
