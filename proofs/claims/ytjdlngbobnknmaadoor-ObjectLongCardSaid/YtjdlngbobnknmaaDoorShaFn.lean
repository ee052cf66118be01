/- What the small functions of layer 2 compute: RotateLeft32, part, turn. -/
import Derived.Test.YtjdlngbobnknmaaDoorProg
import Derived.Test.YtjdlngbobnknmaaDoorShaLaw
import Derived.Laws.BitsAll
import Derived.BigQuiet
import Derived.Deep.QuietTactic
namespace Go.Proofs.YtjdlngbobnknmaaDoor
set_option linter.all false
open Go.RowKit

set_option maxHeartbeats 400000 in
theorem rotL1 (x : Nat) (w : World) (hx : x < 4294967296) :
    Calls Tryd.prog 25 #[.int .u32 (x : Int), .int .i64 1] w fun e w' => e = .returned (.int .u32 ((rot x 1 : Nat) : Int)) ∧ w = w' := by
  have hv : bits .or .u32 ((x : Int) * 2 % 4294967296) ((x : Int) / 2147483648) = ((rot x 1 : Nat) : Int) := by
    have h := u32_or_nat (x * 2 ^ 1 % 4294967296) (x / 2 ^ (32 - 1)) (Nat.mod_lt _ (by omega)) (Nat.lt_of_le_of_lt (Nat.div_le_self _ _) hx)
    rw [rot_shift x 1 hx (by omega)] at h
    simpa using h
  have hm : bits .and .u64 1 31 = 1 := by kernel_rfl
  go_enter Tryd.func25, Tryd.ntmps25
  go_wp2
  go_ret
  exact ⟨rfl, rfl⟩
set_option maxHeartbeats 400000 in
theorem rotL5 (x : Nat) (w : World) (hx : x < 4294967296) :
    Calls Tryd.prog 25 #[.int .u32 (x : Int), .int .i64 5] w fun e w' => e = .returned (.int .u32 ((rot x 5 : Nat) : Int)) ∧ w = w' := by
  have hv : bits .or .u32 ((x : Int) * 32 % 4294967296) ((x : Int) / 134217728) = ((rot x 5 : Nat) : Int) := by
    have h := u32_or_nat (x * 2 ^ 5 % 4294967296) (x / 2 ^ (32 - 5)) (Nat.mod_lt _ (by omega)) (Nat.lt_of_le_of_lt (Nat.div_le_self _ _) hx)
    rw [rot_shift x 5 hx (by omega)] at h
    simpa using h
  have hm : bits .and .u64 5 31 = 5 := by kernel_rfl
  go_enter Tryd.func25, Tryd.ntmps25
  go_wp2
  go_ret
  exact ⟨rfl, rfl⟩
set_option maxHeartbeats 400000 in
theorem rotL30 (x : Nat) (w : World) (hx : x < 4294967296) :
    Calls Tryd.prog 25 #[.int .u32 (x : Int), .int .i64 30] w fun e w' => e = .returned (.int .u32 ((rot x 30 : Nat) : Int)) ∧ w = w' := by
  have hv : bits .or .u32 ((x : Int) * 1073741824 % 4294967296) ((x : Int) / 4) = ((rot x 30 : Nat) : Int) := by
    have h := u32_or_nat (x * 2 ^ 30 % 4294967296) (x / 2 ^ (32 - 30)) (Nat.mod_lt _ (by omega)) (Nat.lt_of_le_of_lt (Nat.div_le_self _ _) hx)
    rw [rot_shift x 30 hx (by omega)] at h
    simpa using h
  have hm : bits .and .u64 30 31 = 30 := by kernel_rfl
  go_enter Tryd.func25, Tryd.ntmps25
  go_wp2
  go_ret
  exact ⟨rfl, rfl⟩

theorem u32_not (b : Nat) (hb : b < 4294967296) : bits .xor .u32 IntKind.u32.max (b : Int) = ((4294967295 - b : Nat) : Int) := by
  have h := u32_xor_nat 4294967295 b (by omega) hb
  have e : (4294967295 ^^^ b : Nat) = 4294967295 - b := by
    apply Nat.eq_of_testBit_eq
    intro j
    rw [show (4294967295 : Nat) = 2 ^ 32 - 1 from rfl, Nat.testBit_xor, Nat.testBit_two_pow_sub_one, Nat.sub_sub, Nat.add_comm 1 b, Nat.testBit_two_pow_sub_succ hb]
    by_cases hj : j < 32
    · simp [hj]
    · have : b.testBit j = false := Nat.testBit_lt_two_pow (Nat.lt_of_lt_of_le (show b < 2 ^ 32 from hb) (Nat.pow_le_pow_right (show 0 < 2 by omega) (show 32 ≤ j by omega)))
      simp [hj, this]
  rw [e] at h
  exact h
theorem f20 (i b c d : Nat) (hi : i < 20) (hb : b < 4294967296) (hc : c < 4294967296) (hd : d < 4294967296) :
    bits .or .u32 (bits .and .u32 (b : Int) (c : Int)) (bits .and .u32 (bits .xor .u32 IntKind.u32.max (b : Int)) (d : Int)) = ((stepF i b c d : Nat) : Int) := by
  rw [u32_not b hb, u32_and_nat b c hb hc, u32_and_nat _ d (by omega) hd, u32_or_nat _ _ (Nat.lt_of_le_of_lt Nat.and_le_left hb) (Nat.lt_of_le_of_lt Nat.and_le_right hd)]
  unfold stepF; rw [if_pos hi]
theorem f40 (i b c d : Nat) (h0 : 20 ≤ i) (hi : i < 40 ∨ 60 ≤ i) (hb : b < 4294967296) (hc : c < 4294967296) (hd : d < 4294967296) :
    bits .xor .u32 (bits .xor .u32 (b : Int) (c : Int)) (d : Int) = ((stepF i b c d : Nat) : Int) := by
  rw [u32_xor_nat b c hb hc, u32_xor_nat _ d (Nat.xor_lt_two_pow (n := 32) hb hc) hd]
  unfold stepF; rw [if_neg (by omega)]
  rcases hi with hi | hi
  · rw [if_pos hi]
  · rw [if_neg (by omega), if_neg (by omega)]
theorem f60 (i b c d : Nat) (h0 : 40 ≤ i) (hi : i < 60) (hb : b < 4294967296) (hc : c < 4294967296) (hd : d < 4294967296) :
    bits .or .u32 (bits .or .u32 (bits .and .u32 (b : Int) (c : Int)) (bits .and .u32 (b : Int) (d : Int))) (bits .and .u32 (c : Int) (d : Int)) = ((stepF i b c d : Nat) : Int) := by
  rw [u32_and_nat b c hb hc, u32_and_nat b d hb hd, u32_and_nat c d hc hd, u32_or_nat _ _ (Nat.lt_of_le_of_lt Nat.and_le_left hb) (Nat.lt_of_le_of_lt Nat.and_le_left hb),
    u32_or_nat _ _ (Nat.or_lt_two_pow (n := 32) (Nat.lt_of_le_of_lt Nat.and_le_left hb) (Nat.lt_of_le_of_lt Nat.and_le_left hb)) (Nat.lt_of_le_of_lt Nat.and_le_left hc)]
  unfold stepF; rw [if_neg (by omega), if_neg (by omega), if_pos hi]

set_option maxHeartbeats 400000 in
theorem shaPart (i : Nat) (b c d : Nat) (w : World) (hi : i < 80) (hb : b < 4294967296) (hc : c < 4294967296) (hd : d < 4294967296) :
    Calls Tryd.prog 26 #[.int .i64 (i : Int), .int .u32 (b : Int), .int .u32 (c : Int), .int .u32 (d : Int)] w fun e w' => e = .returned (.tuple #[.int .u32 ((stepF i b c d : Nat) : Int), .int .u32 ((stepK i : Nat) : Int)]) ∧ w = w' := by
  rcases Nat.lt_or_ge i 20 with h1 | h1
  · have hi1 : (i : Int) < 20 := by omega
    have hF := f20 i b c d h1 hb hc hd
    have hsg : IntKind.u32.signed = false := rfl
    have hK := hide (show stepK i = 1518500249 by unfold stepK; rw [if_pos h1])
    go_enter Tryd.func26, Tryd.ntmps26
    go_wp2
    go_ret2
    exact ⟨by rw [hK.out]; rfl, rfl⟩
  · rcases Nat.lt_or_ge i 40 with h2 | h2
    · have hi1 : (20 : Int) ≤ (i : Int) := by omega
      have hi2 : (i : Int) < 40 := by omega
      have hF := f40 i b c d h1 (.inl h2) hb hc hd
      have hsg : IntKind.u32.signed = false := rfl
      have hK := hide (show stepK i = 1859775393 by unfold stepK; rw [if_neg (by omega), if_pos h2])
      go_enter Tryd.func26, Tryd.ntmps26
      go_wp2
      go_ret2
      exact ⟨by rw [hK.out]; rfl, rfl⟩
    · rcases Nat.lt_or_ge i 60 with h3 | h3
      · have hi2 : (40 : Int) ≤ (i : Int) := by omega
        have hi3 : (i : Int) < 60 := by omega
        have hF := f60 i b c d h2 h3 hb hc hd
        have hsg : IntKind.u32.signed = false := rfl
        have hK := hide (show stepK i = 2400959708 by unfold stepK; rw [if_neg (by omega), if_neg (by omega), if_pos h3])
        go_enter Tryd.func26, Tryd.ntmps26
        go_wp2
        go_ret2
        exact ⟨by rw [hK.out]; rfl, rfl⟩
      · have hi3 : (60 : Int) ≤ (i : Int) := by omega
        have hF := f40 i b c d h1 (.inr h3) hb hc hd
        have hsg : IntKind.u32.signed = false := rfl
        have hK := hide (show stepK i = 3395469782 by unfold stepK; rw [if_neg (by omega), if_neg (by omega), if_neg (by omega)])
        go_enter Tryd.func26, Tryd.ntmps26
        go_wp2
        go_ret2
        exact ⟨by rw [hK.out]; rfl, rfl⟩
end Go.Proofs.YtjdlngbobnknmaaDoor
