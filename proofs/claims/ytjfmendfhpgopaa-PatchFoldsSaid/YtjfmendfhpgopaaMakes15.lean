/- 'PatchMakes' returns true and leaves what there was. -/
import Derived.Test.YtjfmendfhpgopaaMake15
import Derived.Test.YtjfmendfhpgopaaApplies15
namespace Go.Proofs.Ytjfmendfhpgopaa
set_option linter.all false
open Go.RowKit

theorem made_apply {base target p : List UInt8} (h : Made base target p) (hb : base.length < 4294967296) (ht : target.length < 4294967296) : applyRes base p (target.length : Int) = (target, 0) := by
  rcases h with ⟨rfl, rfl⟩ | ⟨_, f, k, h1, h2, h3, h4, rfl⟩
  · exact applyRes_of (by simp [parse, applyGo]) (by omega)
  · have e : oneHk base target f k = printB [⟨(f : Int), ((base.length - k : Nat) : Int), none, 0, (target.take (target.length - k)).drop f⟩] := by
      have hl : ((target.take (target.length - k)).drop f).length = target.length - k - f := by rw [List.length_drop, List.length_take]; omega
      have u1 : u64 (f : Int) = f := by unfold u64; omega
      have u2 : u64 ((base.length - k : Nat) : Int) = base.length - k := by unfold u64; omega
      simp [oneHk, printB, HRec.print, hl, u1, u2]
    have hl : ((target.take (target.length - k)).drop f).length = target.length - k - f := by rw [List.length_drop, List.length_take]; omega
    rw [e]
    have key : base.take f ++ (target.take (target.length - k)).drop f ++ base.drop (base.length - k) = target := by
      rw [h3, h4]
      have e2 : target.take f = (target.take (target.length - k)).take f := by rw [List.take_take, Nat.min_eq_left (by omega)]
      rw [e2, List.take_append_drop, List.take_append_drop]
    refine applyRes_of ?_ (Int.le_refl _)
    rw [parse_print _ (by intro x hx; simp at hx; subst hx; refine ⟨?_, ?_, ?_, ?_, ?_⟩ <;> simp only [hl] <;> omega)]
    simp only [List.map_cons, List.map_nil, hkOf, applyGo, Int.toNat_natCast]
    rw [if_neg (by omega)]
    simp only [List.drop_zero, List.nil_append]
    rw [key]
theorem made_same {base p : List UInt8} (h : Made base base p) : p = [] := by
  rcases h with ⟨_, h⟩ | ⟨h, _⟩
  · exact h
  · exact absurd rfl h

set_option maxHeartbeats 2000000 in
set_option maxRecDepth 100000 in
theorem patchMakes_walk {A0 A1 : Option Addr} {n0 n1 c0 c1 : Nat} {b0 t0 : List UInt8} (w : World) (q0 : Arg w A0 n0 c0 b0) (q1 : Arg w A1 n1 c1 t0) :
    Calls Try.prog 6 #[.slice A0 n0 c0, .slice A1 n1 c1] w fun e w' => e = .returned (.bool true) ∧ Below w.heap.size w w' := by
  have k0 := q0.take 1000
  have k1 := q1.take 1000
  have hl0 : (b0.take 1000).length ≤ 1000 := by rw [List.length_take]; omega
  have hl1 : (t0.take 1000).length ≤ 1000 := by rw [List.length_take]; omega
  have hf0 := few_calls A0 n0 c0 w (by have := q0.len; have := q0.cap; omega) q0.max
  have hf1 := few_calls A1 n1 c1 w (by have := q1.len; have := q1.cap; omega) q1.max
  rw [k0.len] at hf0
  rw [k1.len] at hf1
  generalize b0.take 1000 = bs at *
  generalize t0.take 1000 = ts at *
  have F0 := hide hf0
  have F1 := hide hf1
  clear hf0 hf1 q0 q1
  go_enter Try.func6, Try.ntmps6
  go_wp2_with (at_builtin; refine stopAt ?_)
  refine F0.out.mono ?_
  rintro e w' ⟨rfl, rfl⟩
  go_wp2_with (at_builtin; refine stopAt ?_)
  refine F1.out.mono ?_
  rintro e w' ⟨rfl, rfl⟩
  go_wp2_with (at_builtin; refine stopAt ?_)
  refine (patchMake A0 A1 _ _ c0 c1 bs ts _ rfl rfl k0.rd k1.rd k1.cap k1.max (by omega) (by omega)).mono ?_
  rintro e w1 ⟨Ap, cp, p, rfl, hM, hpl, o1, b1⟩
  have hS := (Sep.start w).call b1 (x := .row 5 Ap cp p) o1
  simp only [List.cons_append, List.nil_append, List.set_cons_zero, List.set_cons_succ, List.map_cons, List.map_nil, List.getD_cons_zero, List.getD_cons_succ, Array.toList] at hS
  have HM := hide hM
  have HA := hide (made_apply hM (by omega) (by omega))
  have hpl2 : p.length ≤ 1012 := by omega
  clear hM o1 b1
  go_wp2_with (at_builtin; refine stopAt ?_)
  refine (patchApply A0 Ap _ _ c0 cp (ts.length : Int) bs p _ rfl rfl (k0.rd.ext hS.below) (hS.rd 0 rfl) k0.cap (hS.own 0 rfl).cap (hS.own 0 rfl).cmax (by omega) (fun k hk => ((hS.own 0 rfl).lt k hk).2)).mono ?_
  rintro e w2 ⟨Aa, ca, rfl, o2, b2⟩
  rw [HA.out] at o2 ⊢
  replace hS := hS.call b2 (x := .row 5 Aa ca ts) o2
  simp only [List.cons_append, List.nil_append, List.set_cons_zero, List.set_cons_succ, List.map_cons, List.map_nil, List.getD_cons_zero, List.getD_cons_succ, Array.toList] at hS
  clear o2 b2
  go_wp2_with (at_builtin; refine stopAt ?_)
  refine (refApply A0 Ap _ _ c0 cp (ts.length : Int) bs p _ rfl rfl (k0.rd.ext hS.below) (hS.rd 0 rfl) k0.cap (hS.own 0 rfl).cap (hS.own 0 rfl).cmax (by omega)).mono ?_
  rintro e w3 ⟨Ab, cb, rfl, o3, b3⟩
  rw [HA.out] at o3 ⊢
  replace hS := hS.call b3 (x := .row 5 Ab cb ts) o3
  simp only [List.cons_append, List.nil_append, List.set_cons_zero, List.set_cons_succ, List.map_cons, List.map_nil, List.getD_cons_zero, List.getD_cons_succ, Array.toList] at hS
  clear o3 b3
  go_wp2_with (at_builtin; refine stopAt ?_)
  refine (known_calls _).mono ?_
  rintro e w5 ⟨rfl, b5⟩
  replace hS := hS.ext b5
  clear b5
  have hpli : (p.length : Int) ≤ 12 + (ts.length : Int) := by omega
  by_cases heq : bs = ts
  · subst heq
    obtain rfl := made_same HM.out
    have st0 := run_str (P := Try.prog) w5 Try.underlying22 Try.underlying5 (hS.rd 1 rfl) (c := ca) rfl Try.underlying9
    have st1 := run_str (P := Try.prog) w5 Try.underlying22 Try.underlying5 (k1.rd.ext hS.below) (c := c1) rfl Try.underlying9
    have st2 := run_str (P := Try.prog) w5 Try.underlying22 Try.underlying5 (hS.rd 2 rfl) (c := cb) rfl Try.underlying9
    have st3 := run_str (P := Try.prog) w5 Try.underlying22 Try.underlying5 (k0.rd.ext hS.below) (c := c0) rfl Try.underlying9
    go_wp2_with (at_builtin; refine stopAt ?_)
    clear st0 st1 st2 st3
    replace hS := hS.allocB 5
    simp only [List.cons_append, List.nil_append, List.set_cons_zero, List.set_cons_succ, List.map_cons, List.map_nil, List.getD_cons_zero, List.getD_cons_succ, Array.toList] at hS
    refine unstop (wpList_appSG hS 3 byt (by rfl) rfl rfl (k0.rd.ext hS.below) rfl rfl rfl rfl (by simp; omega) ?_)
    clear hS
    intro A6 c6 w6 hS
    simp only [List.cons_append, List.nil_append, List.set_cons_zero, List.set_cons_succ, List.map_cons, List.map_nil, List.getD_cons_zero, List.getD_cons_succ, Array.toList] at hS
    go_wp2_with (at_builtin; refine stopAt ?_)
    refine (patchMake A0 A6 _ _ c0 c6 bs bs _ rfl (by simp) (k0.rd.ext hS.below) (hS.rd 3 rfl) (hS.own 3 rfl).cap (hS.own 3 rfl).cmax (by omega) (by omega)).mono ?_
    rintro e w7 ⟨A7, c7, p7, rfl, hM, _, o7, b7⟩
    have hbel := (hS.ext b7).below
    obtain rfl := made_same hM
    clear hS hM o7 b7
    go_wp2
    go_ret
    exact ⟨rfl, hbel⟩
  · skip
    have st0 := run_str (P := Try.prog) w5 Try.underlying22 Try.underlying5 (hS.rd 1 rfl) (c := ca) rfl Try.underlying9
    have st1 := run_str (P := Try.prog) w5 Try.underlying22 Try.underlying5 (k1.rd.ext hS.below) (c := c1) rfl Try.underlying9
    have st2 := run_str (P := Try.prog) w5 Try.underlying22 Try.underlying5 (hS.rd 2 rfl) (c := cb) rfl Try.underlying9
    have st3 := run_str (P := Try.prog) w5 Try.underlying22 Try.underlying5 (k0.rd.ext hS.below) (c := c0) rfl Try.underlying9
    go_wp2_with (at_builtin; refine stopAt ?_)
    clear st0 st1 st2 st3
    replace hS := hS.allocB 5
    simp only [List.cons_append, List.nil_append, List.set_cons_zero, List.set_cons_succ, List.map_cons, List.map_nil, List.getD_cons_zero, List.getD_cons_succ, Array.toList] at hS
    refine unstop (wpList_appSG hS 3 byt (by rfl) rfl rfl (k0.rd.ext hS.below) rfl rfl rfl rfl (by simp; omega) ?_)
    clear hS
    intro A6 c6 w6 hS
    simp only [List.cons_append, List.nil_append, List.set_cons_zero, List.set_cons_succ, List.map_cons, List.map_nil, List.getD_cons_zero, List.getD_cons_succ, Array.toList] at hS
    go_wp2_with (at_builtin; refine stopAt ?_)
    refine (patchMake A0 A6 _ _ c0 c6 bs bs _ rfl (by simp) (k0.rd.ext hS.below) (hS.rd 3 rfl) (hS.own 3 rfl).cap (hS.own 3 rfl).cmax (by omega) (by omega)).mono ?_
    rintro e w7 ⟨A7, c7, p7, rfl, hM, _, o7, b7⟩
    have hbel := (hS.ext b7).below
    obtain rfl := made_same hM
    clear hS hM o7 b7
    go_wp2
    go_ret
    exact ⟨rfl, hbel⟩
end Go.Proofs.Ytjfmendfhpgopaa
