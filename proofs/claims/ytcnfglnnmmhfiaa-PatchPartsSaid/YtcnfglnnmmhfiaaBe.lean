/- Big-endian numbers: what 'tramwayref06.Be', 'nums.Be' and 'nums.FromBe' compute. No condition beyond the kinds' own ranges. -/
import Derived.Test.YtcnfglnnmmhfiaaProg
import Derived.Test.YtcnfglnnmmhfiaaParse
import Derived.Deep.DeepCutAuto
import Derived.Deep.DeepFit
namespace Go.Proofs.Ytcnfglnnmmhfiaa
set_option linter.all false
open Go.RowKit

theorem byt : Byt Try.prog 22 5 := ⟨Try.underlying22, by kernel_rfl⟩

set_option maxHeartbeats 400000 in
theorem refBe (n : Nat) (s : Int) (w : World) (hn : n < 18446744073709551616) (hs : -9223372036854775808 ≤ s) (hs2 : s ≤ 9223372036854775807) :
    Calls Try.prog 9 #[.int .u64 n, .int .i64 s] w fun e w' => ∃ A c, e = .returned (.slice A (be (min 8 s.toNat) n).length c) ∧
      Own w' w.heap.size 5 A c (be (min 8 s.toNat) n) ∧ Below w.heap.size w w' := by
  go_enter Try.func9, Try.ntmps9
  go_wp2
  go_loopw [0, 5, 6] (fun m b i wr => ∃ j : Nat, j ≤ 8 ∧ j ≤ s.toNat ∧ i = .int .i64 j ∧ m = .int .u64 ((n / 256 ^ j : Nat) : Int) ∧ ∃ A c, b = .slice A (be j n).length c ∧ Own wr w.heap.size 5 A c (be j n) ∧ Below w.heap.size w wr)
    (fun _ _ i _ => 8 - (intOf i).toNat)
  case atStart => exact ⟨0, by omega, by omega, rfl, by simp, none, 0, rfl, Own.nil _ _ _, Below.refl _ _⟩
  case round =>
    obtain ⟨j, hj, hjs, rfl, rfl, A, c, rfl, hown, hbel⟩ := hrel
    have hlow : n / 256 ^ j < 18446744073709551616 := Nat.lt_of_le_of_lt (Nat.div_le_self _ _) hn
    generalize hN : n / 256 ^ j = N at hlow ⊢
    have HN := hide hN
    clear hN
    by_cases h8 : j < 8 ∧ (j : Int) < s
    · obtain ⟨h8, hlt⟩ := h8
      go_wp2_with (at_builtin; refine stopAt ?_)
      refine unstop (wpList_app _ rfl _ _ byt rfl rfl rfl (Own.one (base := w.heap.size) _ _ _ (by omega) (by omega) (by have := hbel.size; omega)) (hown.alloc _).rd rfl rfl (by simp [be_len]; omega) (by have := hbel.size; simp; omega) ?_)
      intro A1 c1 w1 hown1 hg1 hd1
      go_wp2
      go_roundw
      case rel =>
        have e1 : be (j + 1) n = byteOf (((N % 256 : Nat) : Int)) :: be j n := by simp only [be]; rw [HN.out]
        refine ⟨j + 1, by omega, by omega, by go_num, ?_, A1, c1, ?_, ?_, ?_⟩
        · rw [← HN.out, Nat.pow_succ, ← Nat.div_div_eq_div_mul]; rfl
        · simp [be_len]
        · rw [e1]; exact hown1
        · exact (hbel.alloc hbel.size _).grown hg1 (by have := hbel.size; simp; omega) (by rintro k ⟨⟩; exact hbel.size)
      case measure => simp [intOf]; omega
    · have hmin := hide (show min 8 s.toNat = j by omega)
      by_cases h8' : j < 8
      · have hs3 : ¬ (j : Int) < s := by omega
        go_wp2
        go_ret
        exact ⟨A, c, by rw [hmin.out]; rfl, by rw [hmin.out]; exact hown, hbel⟩
      · go_wp2
        go_ret
        exact ⟨A, c, by rw [hmin.out]; rfl, by rw [hmin.out]; exact hown, hbel⟩

theorem or_shift8 (a c : Int) (h0 : 0 ≤ a) (h1 : a ≤ 72057594037927935) (h2 : 0 ≤ c) (h3 : c ≤ 255) : bits .or .u64 (a * 256) c = a * 256 + c := by
  rw [u64_or _ _ (by omega) (by omega) (by omega) (by omega)]
  obtain ⟨x, rfl⟩ := Int.eq_ofNat_of_zero_le h0
  obtain ⟨y, rfl⟩ := Int.eq_ofNat_of_zero_le h2
  have e : ((x : Int) * 256).toNat = x <<< 8 := by rw [Nat.shiftLeft_eq]; omega
  rw [e, Int.toNat_natCast, ← Nat.shiftLeft_add_eq_or_of_lt (by omega : y < 2 ^ 8), Nat.shiftLeft_eq]
  omega

set_option maxHeartbeats 400000 in
theorem numsFromBe (A : Option Addr) (n c : Nat) (l : List UInt8) (w : World) (hn : n = l.length) (hr : Rd w A l) (h8 : l.length ≤ 8) :
    Calls Try.prog 11 #[.slice A n c] w fun e w' => e = .returned (.int .u64 (beVal l)) ∧ w = w' := by
  subst hn
  go_enter Try.func11, Try.ntmps11
  go_wp2
  go_loop [3, 5, 13] (fun n _ i => ∃ k : Nat, k ≤ l.length ∧ i = .int .i64 k ∧ n = .int .u64 (beVal (l.take k) : Nat)) (fun _ _ i => l.length - (intOf i).toNat)
  case atStart => exact ⟨0, by omega, rfl, rfl⟩
  case round =>
    obtain ⟨k, hk, rfl, rfl⟩ := hrel
    by_cases hlt : k < l.length
    · obtain ⟨b, o, rfl, hb, hcell⟩ := hr.at_ (by omega)
      have hc := hcell k hlt
      have e1 := beVal_snoc l k hlt
      have hlo := at8_lo l k
      have hhi := at8_hi l k
      have hv := beVal_take_lt l k (by omega)
      clear hcell
      have E1 := hide e1
      clear e1
      go_wp2
      go_round
      case rel => exact ⟨k + 1, by omega, by go_num, by rw [or_shift8 _ _ (by omega) hv hlo hhi, ← E1.out]⟩
      case measure => simp [intOf]; omega
    · obtain rfl : k = l.length := by omega
      go_wp2
      go_ret
      exact ⟨rfl, rfl⟩
/-- The same where the number is no cast. -/
theorem refBeI (n s : Int) (w : World) (h0 : 0 ≤ n) (hn : n < 18446744073709551616) (hs : -9223372036854775808 ≤ s) (hs2 : s ≤ 9223372036854775807) :
    Calls Try.prog 9 #[.int .u64 n, .int .i64 s] w fun e w' => ∃ A c, e = .returned (.slice A (be (min 8 s.toNat) n.toNat).length c) ∧ Own w' w.heap.size 5 A c (be (min 8 s.toNat) n.toNat) ∧ Below w.heap.size w w' := by
  obtain ⟨m, rfl⟩ := Int.eq_ofNat_of_zero_le h0
  exact refBe m s w (by omega) hs hs2
theorem wrap_u64_toNat (x : Int) : (IntKind.u64.wrap x).toNat = u64 x := by rw [IntKind.wrap_u64]; rfl
theorem refBe4 (x : Int) (w : World) :
    Calls Try.prog 9 #[.int .u64 (IntKind.u64.wrap x), .int .i64 4] w fun e w' => ∃ A c, e = .returned (.slice A 4 c) ∧ Own w' w.heap.size 5 A c (be 4 (u64 x)) ∧ Below w.heap.size w w' := by
  refine (refBeI (IntKind.u64.wrap x) 4 w (by rw [IntKind.wrap_u64]; omega) (by rw [IntKind.wrap_u64]; omega) (by omega) (by omega)).mono ?_
  rintro e w' ⟨A, c, rfl, h2, h3⟩
  rw [wrap_u64_toNat] at h2 ⊢
  exact ⟨A, c, by rw [be_len]; rfl, h2, h3⟩
theorem refBe4N (n : Nat) (w : World) (hn : n < 18446744073709551616) :
    Calls Try.prog 9 #[.int .u64 (n : Int), .int .i64 4] w fun e w' => ∃ A c, e = .returned (.slice A 4 c) ∧ Own w' w.heap.size 5 A c (be 4 n) ∧ Below w.heap.size w w' := by
  refine (refBe n 4 w hn (by omega) (by omega)).mono ?_
  rintro e w' ⟨A, c, rfl, h2, h3⟩
  exact ⟨A, c, by rw [be_len]; rfl, h2, h3⟩
end Go.Proofs.Ytcnfglnnmmhfiaa
