/- 'ShaParts' returns true. -/
import Derived.Test.YtbefhofmbiedgaaKnown02
import Derived.Test.YtbefhofmbiedgaaSep
import Derived.Test.YtbefhofmbiedgaaArgsZ
import Derived.Test.YtbefhofmbiedgaaHeld
import Derived.Stop.BytesEq
namespace Go.Proofs.Ytbefhofmbiedgaa
set_option linter.all false
open Go.RowKit

theorem rowB : RowT Try.prog 30 22 (.slice none 0 0) 1 24 := ⟨Try.underlying30, by kernel_rfl, by decide, by decide⟩

theorem eqlId (xs ys : List UInt8) (hx : xs.length = 20) (hy : ys.length = 20) (w : World) : (binOp .eql 25 (.agg (xs.map U).toArray) (.agg (ys.map U).toArray)).run Try.prog w = .ok (.bool (xs == ys)) w :=
  run_eql_bytes w 25 5 20 Try.underlying25 Try.underlying5 Try.sizeOf5 xs ys hx hy

theorem cut_to (z : Int) (a n : Nat) (h : a ≤ n) (hn : n ≤ 2000) : ∃ to : Nat, a ≤ to ∧ to ≤ n ∧ wrap64 ((a : Int) + wrap64 ((IntKind.u64.wrap z).tmod ((n : Int) - (a : Int) + 1))) = (to : Int) := by
  rw [IntKind.wrap_u64]
  have hp : 0 ≤ z % 18446744073709551616 := Int.emod_nonneg _ (by omega)
  rw [Int.tmod_eq_emod_of_nonneg hp]
  have h1 := Int.emod_nonneg (z % 18446744073709551616) (show ((n : Int) - (a : Int) + 1) ≠ 0 by omega)
  have h2 := Int.emod_lt_of_pos (z % 18446744073709551616) (show 0 < ((n : Int) - (a : Int) + 1) by omega)
  generalize z % 18446744073709551616 % ((n : Int) - (a : Int) + 1) = r at *
  rw [IntWalk.wrap64_in r (by omega), IntWalk.wrap64_in _ (by omega)]
  exact ⟨a + r.toNat, by omega, by omega, by omega⟩
theorem flatB_snoc (xs : List BRec) (x : BRec) : flatB (xs ++ [x]) = flatB xs ++ x.b := by simp [flatB]
theorem take_cut (bs : List UInt8) (a b : Nat) (h : a ≤ b) : bs.take a ++ (bs.take b).drop a = bs.take b := by
  have := List.take_append_drop a (bs.take b)
  rwa [List.take_take, Nat.min_eq_left h] at this

set_option maxHeartbeats 1000000 in
set_option maxRecDepth 100000 in
theorem shaParts_walk {A0 A1 : Option Addr} {n0 n1 c0 c1 : Nat} {b0 : List UInt8} {zs : List Int} (w : World) (q0 : Arg w A0 n0 c0 b0) (q1 : ArgZ w A1 n1 c1 zs) :
    Calls Try.prog 4 #[.slice A0 n0 c0, .slice A1 n1 c1] w fun e w' => e = .returned (.bool true) ∧ Below w.heap.size w w' := by
  have k0 := q0.take 2000
  have hl0 : (b0.take 2000).length ≤ 2000 := by rw [List.length_take]; omega
  have hn1 := q1.len
  subst hn1
  have hmin : (min (n0 : Int) 2000).toNat = (b0.take 2000).length := by
    have := k0.len; omega
  have hc0 : ((b0.take 2000).length : Int) ≤ (c0 : Int) := by have := k0.cap; omega
  generalize b0.take 2000 = bs at *
  have hmax := k0.max
  have hmax1 := q1.max
  have hcap1 := q1.cap
  clear q0
  go_enter Try.func4, Try.ntmps4
  go_wp2_with (at_builtin; refine stopAt ?_)
  clear hmin
  have hS := (Sep.start w).nilR 22 1
  simp only [List.cons_append, List.nil_append, List.set_cons_zero, List.set_cons_succ, List.map_cons, List.map_nil, List.getD_cons_zero, List.getD_cons_succ, Array.toList] at hS
  go_loopw [5, 6, 7] (fun v a i wr => ∃ (k at_ : Nat) (xs : List BRec) (A' : Option Addr) (c' : Nat), k ≤ zs.length ∧ k ≤ 20 ∧ at_ ≤ bs.length ∧ i = .int .i64 k ∧ a = .int .i64 at_ ∧ v = .slice A' k c' ∧ Hid (flatB xs = bs.take at_) ∧ xs.length = k ∧ (∀ x ∈ xs, Rd w x.A x.b) ∧ Sep w.heap.size w wr [.rowR 22 1 A' k c' (xs.map BRec.cell)])
    (fun _ _ i _ => zs.length - (intOf i).toNat)
  case atStart => exact ⟨0, 0, [], none, 0, Nat.zero_le _, by omega, by omega, rfl, rfl, rfl, hide rfl, rfl, ⟨(fun x hx => nomatch hx), hS⟩⟩
  case round =>
    clear hS
    obtain ⟨k, at_, xs, A', c', hk, hk20, hat, rfl, rfl, rfl, HF, hxl, hxr, hS⟩ := hrel
    by_cases hgo : k < zs.length ∧ k < 20
    · obtain ⟨hlt, hlt20⟩ := hgo
      have hlt20' : (k : Int) < 20 := by omega
      obtain ⟨bz, oz, rfl, hbz, hcz⟩ := (q1.rd.ext hS.below).at_ (by simp; omega)
      obtain ⟨z, hz⟩ : ∃ z, zs.getD k 0 = z := ⟨_, rfl⟩
      have g0 : wr.cell? ⟨bz, oz + k, none⟩ = some (.int .i64 z) := hcz k _ (by rw [List.getElem?_map, List.getElem?_eq_getElem hlt, ← hz]; simp [List.getElem?_eq_getElem hlt])
      clear hcz
      obtain ⟨to, ht1, ht2, hto⟩ := cut_to z at_ bs.length hat hl0
      have ht3 : (at_ : Int) ≤ (to : Int) := by omega
      have ht4 : (to : Int) ≤ (c0 : Int) := by omega
      have Hto := hide ht3
      go_wp2_with (at_builtin; refine stopAt ?_)
      have hS1 := hS.allocR #[.slice (cutA A0 c0 at_ 1) (to - at_) (c0 - at_)] 22 1 1 rfl (by simp [maxLen])
      simp only [List.cons_append, List.nil_append, List.set_cons_zero, List.set_cons_succ, List.map_cons, List.map_nil, List.getD_cons_zero, List.getD_cons_succ, Array.toList] at hS1
      refine unstop (wpList_appRS hS1 0 rowB rfl rfl rfl (hS1.rdR 1 rfl) rfl rfl rfl (by omega) (by simp [Value.oneCell']) (by omega) (by omega) ?_)
      clear hS hS1
      intro A3 c3 w3 hS
      simp only [List.cons_append, List.nil_append, List.set_cons_zero, List.set_cons_succ, List.map_cons, List.map_nil, List.getD_cons_zero, List.getD_cons_succ, Array.toList] at hS
      replace hS := hS.pick [0] (by simp)
      simp only [List.cons_append, List.nil_append, List.set_cons_zero, List.set_cons_succ, List.map_cons, List.map_nil, List.getD_cons_zero, List.getD_cons_succ, Array.toList] at hS
      have hxb : ((bs.take to).drop at_).length = to - at_ := by rw [List.length_drop, List.length_take]; omega
      have hxc : xs.map BRec.cell ++ [.slice (cutA A0 c0 at_ 1) (to - at_) (c0 - at_)] = (xs ++ [(⟨cutA A0 c0 at_ 1, c0 - at_, (bs.take to).drop at_⟩ : BRec)]).map BRec.cell := by
        rw [List.map_append, ← hxb]; rfl
      rw [hxc] at hS
      have Hrd := hide (show ∀ x ∈ xs ++ [(⟨cutA A0 c0 at_ 1, c0 - at_, (bs.take to).drop at_⟩ : BRec)], Rd w x.A x.b by
        intro x hx
        rcases List.mem_append.1 hx with hx | hx
        · exact hxr x hx
        · rw [List.mem_singleton.1 hx]; exact k0.rd.cut ht1 ht2 (by have := k0.cap; omega))
      have HF2 := hide (show flatB (xs ++ [(⟨cutA A0 c0 at_ 1, c0 - at_, (bs.take to).drop at_⟩ : BRec)]) = bs.take to by
        rw [flatB_snoc, HF.out]; exact take_cut _ _ _ ht1)
      have hxl2 : (xs ++ [(⟨cutA A0 c0 at_ 1, c0 - at_, (bs.take to).drop at_⟩ : BRec)]).length = k + 1 := by simp [hxl]
      clear hxc hxb hxr HF
      generalize xs ++ [(⟨cutA A0 c0 at_ 1, c0 - at_, (bs.take to).drop at_⟩ : BRec)] = ys at *
      go_wp2
      go_roundw
      case rel => exact ⟨k + 1, to, ys, A3, c3, by omega, by omega, by omega, rfl, rfl, rfl, HF2, hxl2, Hrd.out, hS⟩
      case measure => simp [intOf]; omega
    · rcases Nat.lt_or_ge k zs.length with hlt | hge
      · have hge : (20 : Int) ≤ (k : Int) := by omega
        have hat2 : (at_ : Int) ≤ (bs.length : Int) := by omega
        go_wp2_with (at_builtin; refine stopAt ?_)
        have hS1 := hS.allocR #[.slice (cutA A0 c0 at_ 1) (bs.length - at_) (c0 - at_)] 22 1 1 rfl (by simp [maxLen])
        simp only [List.cons_append, List.nil_append, List.set_cons_zero, List.set_cons_succ, List.map_cons, List.map_nil, List.getD_cons_zero, List.getD_cons_succ, Array.toList] at hS1
        refine unstop (wpList_appRS hS1 0 rowB rfl rfl rfl (hS1.rdR 1 rfl) rfl rfl rfl (by omega) (by simp [Value.oneCell']) (by omega) (by omega) ?_)
        clear hS hS1
        intro A3 c3 w3 hS
        simp only [List.cons_append, List.nil_append, List.set_cons_zero, List.set_cons_succ, List.map_cons, List.map_nil, List.getD_cons_zero, List.getD_cons_succ, Array.toList] at hS
        replace hS := hS.pick [0] (by simp)
        simp only [List.cons_append, List.nil_append, List.set_cons_zero, List.set_cons_succ, List.map_cons, List.map_nil, List.getD_cons_zero, List.getD_cons_succ, Array.toList] at hS
        have hxb : (bs.drop at_).length = bs.length - at_ := List.length_drop
        have hxc : xs.map BRec.cell ++ [.slice (cutA A0 c0 at_ 1) (bs.length - at_) (c0 - at_)] = (xs ++ [(⟨cutA A0 c0 at_ 1, c0 - at_, bs.drop at_⟩ : BRec)]).map BRec.cell := by
          rw [List.map_append, ← hxb]; rfl
        rw [hxc] at hS
        have Hrd := hide (show ∀ x ∈ xs ++ [(⟨cutA A0 c0 at_ 1, c0 - at_, bs.drop at_⟩ : BRec)], Rd w x.A x.b by
          intro x hx
          rcases List.mem_append.1 hx with hx | hx
          · exact hxr x hx
          · rw [List.mem_singleton.1 hx]
            have := k0.rd.cut (cap := c0) hat (Nat.le_refl _) (by have := k0.cap; omega)
            rwa [List.take_length] at this)
        have HF2 := hide (show flatB (xs ++ [(⟨cutA A0 c0 at_ 1, c0 - at_, bs.drop at_⟩ : BRec)]) = bs by
          rw [flatB_snoc, HF.out]; exact List.take_append_drop _ _)
        have hxl2 : (xs ++ [(⟨cutA A0 c0 at_ 1, c0 - at_, bs.drop at_⟩ : BRec)]).length = k + 1 := by simp [hxl]
        clear hxc hxb hxr HF
        generalize xs ++ [(⟨cutA A0 c0 at_ 1, c0 - at_, bs.drop at_⟩ : BRec)] = ys at *
        go_wp2_with (at_builtin; refine stopAt ?_)
        refine (known_calls w3).mono ?_
        rintro e w4 ⟨rfl, b4⟩
        replace hS := hS.ext b4
        clear b4
        go_wp2_with (at_builtin; refine stopAt ?_)
        refine (shaSum A3 (k + 1) c3 ys w4 hxl2.symm ⟨hS.rdR 0 rfl, fun x hx => (Hrd.out x hx).ext hS.below⟩ (by omega) (by rw [HF2.out]; omega)).mono ?_
        rintro e w5 ⟨rfl, b5⟩
        replace hS := hS.ext b5
        clear b5
        rw [HF2.out]
        go_wp2_with (at_builtin; refine stopAt ?_)
        have hS1 := hS.allocR #[.slice A0 bs.length c0] 22 1 1 rfl (by simp [maxLen])
        simp only [List.cons_append, List.nil_append, List.set_cons_zero, List.set_cons_succ, List.map_cons, List.map_nil, List.getD_cons_zero, List.getD_cons_succ, Array.toList] at hS1
        refine (shaSum _ 1 1 [⟨A0, c0, bs⟩] _ rfl ⟨hS1.rdR 1 rfl, fun x hx => ?_⟩ (by simp) (by simp [flatB]; omega)).mono ?_
        · rw [List.mem_singleton.1 hx]; exact k0.rd.ext hS1.below
        rintro e w6 ⟨rfl, b6⟩
        replace hS := hS1.ext b6
        clear b6 hS1
        rw [show flatB [(⟨A0, c0, bs⟩ : BRec)] = bs by simp [flatB]]
        have heq := eqlId (sha bs) (sha bs) (sha_len _) (sha_len _)
        rw [beq_self_eq_true] at heq
        go_wp2
        go_ret
        exact ⟨rfl, hS.below⟩
      · have hge2 : (zs.length : Int) ≤ (k : Int) := by omega
        have hat2 : (at_ : Int) ≤ (bs.length : Int) := by omega
        go_wp2_with (at_builtin; refine stopAt ?_)
        have hS1 := hS.allocR #[.slice (cutA A0 c0 at_ 1) (bs.length - at_) (c0 - at_)] 22 1 1 rfl (by simp [maxLen])
        simp only [List.cons_append, List.nil_append, List.set_cons_zero, List.set_cons_succ, List.map_cons, List.map_nil, List.getD_cons_zero, List.getD_cons_succ, Array.toList] at hS1
        refine unstop (wpList_appRS hS1 0 rowB rfl rfl rfl (hS1.rdR 1 rfl) rfl rfl rfl (by omega) (by simp [Value.oneCell']) (by omega) (by omega) ?_)
        clear hS hS1
        intro A3 c3 w3 hS
        simp only [List.cons_append, List.nil_append, List.set_cons_zero, List.set_cons_succ, List.map_cons, List.map_nil, List.getD_cons_zero, List.getD_cons_succ, Array.toList] at hS
        replace hS := hS.pick [0] (by simp)
        simp only [List.cons_append, List.nil_append, List.set_cons_zero, List.set_cons_succ, List.map_cons, List.map_nil, List.getD_cons_zero, List.getD_cons_succ, Array.toList] at hS
        have hxb : (bs.drop at_).length = bs.length - at_ := List.length_drop
        have hxc : xs.map BRec.cell ++ [.slice (cutA A0 c0 at_ 1) (bs.length - at_) (c0 - at_)] = (xs ++ [(⟨cutA A0 c0 at_ 1, c0 - at_, bs.drop at_⟩ : BRec)]).map BRec.cell := by
          rw [List.map_append, ← hxb]; rfl
        rw [hxc] at hS
        have Hrd := hide (show ∀ x ∈ xs ++ [(⟨cutA A0 c0 at_ 1, c0 - at_, bs.drop at_⟩ : BRec)], Rd w x.A x.b by
          intro x hx
          rcases List.mem_append.1 hx with hx | hx
          · exact hxr x hx
          · rw [List.mem_singleton.1 hx]
            have := k0.rd.cut (cap := c0) hat (Nat.le_refl _) (by have := k0.cap; omega)
            rwa [List.take_length] at this)
        have HF2 := hide (show flatB (xs ++ [(⟨cutA A0 c0 at_ 1, c0 - at_, bs.drop at_⟩ : BRec)]) = bs by
          rw [flatB_snoc, HF.out]; exact List.take_append_drop _ _)
        have hxl2 : (xs ++ [(⟨cutA A0 c0 at_ 1, c0 - at_, bs.drop at_⟩ : BRec)]).length = k + 1 := by simp [hxl]
        clear hxc hxb hxr HF
        generalize xs ++ [(⟨cutA A0 c0 at_ 1, c0 - at_, bs.drop at_⟩ : BRec)] = ys at *
        go_wp2_with (at_builtin; refine stopAt ?_)
        refine (known_calls w3).mono ?_
        rintro e w4 ⟨rfl, b4⟩
        replace hS := hS.ext b4
        clear b4
        go_wp2_with (at_builtin; refine stopAt ?_)
        refine (shaSum A3 (k + 1) c3 ys w4 hxl2.symm ⟨hS.rdR 0 rfl, fun x hx => (Hrd.out x hx).ext hS.below⟩ (by omega) (by rw [HF2.out]; omega)).mono ?_
        rintro e w5 ⟨rfl, b5⟩
        replace hS := hS.ext b5
        clear b5
        rw [HF2.out]
        go_wp2_with (at_builtin; refine stopAt ?_)
        have hS1 := hS.allocR #[.slice A0 bs.length c0] 22 1 1 rfl (by simp [maxLen])
        simp only [List.cons_append, List.nil_append, List.set_cons_zero, List.set_cons_succ, List.map_cons, List.map_nil, List.getD_cons_zero, List.getD_cons_succ, Array.toList] at hS1
        refine (shaSum _ 1 1 [⟨A0, c0, bs⟩] _ rfl ⟨hS1.rdR 1 rfl, fun x hx => ?_⟩ (by simp) (by simp [flatB]; omega)).mono ?_
        · rw [List.mem_singleton.1 hx]; exact k0.rd.ext hS1.below
        rintro e w6 ⟨rfl, b6⟩
        replace hS := hS1.ext b6
        clear b6 hS1
        rw [show flatB [(⟨A0, c0, bs⟩ : BRec)] = bs by simp [flatB]]
        have heq := eqlId (sha bs) (sha bs) (sha_len _) (sha_len _)
        rw [beq_self_eq_true] at heq
        go_wp2
        go_ret
        exact ⟨rfl, hS.below⟩
end Go.Proofs.Ytbefhofmbiedgaa
