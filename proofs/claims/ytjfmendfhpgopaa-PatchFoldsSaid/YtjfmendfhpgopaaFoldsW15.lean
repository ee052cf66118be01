/- 'PatchFolds' returns true and leaves what there was: the walk. -/
import Derived.Test.YtjfmendfhpgopaaFolds15
namespace Go.Proofs.Ytjfmendfhpgopaa
set_option linter.all false
open Go.RowKit

set_option maxHeartbeats 1000000 in
set_option maxRecDepth 100000 in
theorem patchFolds_walk {A0 A1 A2 : Option Addr} {n0 n1 n2 c0 c1 c2 : Nat} {b0 : List UInt8} {hs ks : List HRec} (w : World) (q0 : Arg w A0 n0 c0 b0) (q1 : ArgH w A1 n1 c1 hs) (q2 : ArgH w A2 n2 c2 ks) :
    Calls Try.prog 7 #[.slice A0 n0 c0, .slice A1 n1 c1, .slice A2 n2 c2] w fun e w' => e = .returned (.bool true) ∧ Below w.heap.size w w' := by
  have k0 := q0.take 1000
  have hl0 : (b0.take 1000).length ≤ 1000 := by rw [List.length_take]; omega
  have hf0 := few_calls A0 n0 c0 w (by have := q0.len; have := q0.cap; omega) q0.max
  rw [k0.len] at hf0
  generalize b0.take 1000 = bs at *
  have F0 := hide hf0
  have Q1 := hide (foldCut w q1)
  have Q2 := hide (fun W (hW : Below w.heap.size w W) => foldCut W (⟨q2.len, q2.rd.ext hW, q2.cap, q2.max, q2.caps⟩ : ArgH W A2 n2 c2 ks))
  clear hf0 q0 q1 q2
  go_enter Try.func7, Try.ntmps7
  go_wp2_with (at_builtin; refine stopAt ?_)
  refine F0.out.mono ?_
  rintro e w' ⟨rfl, rfl⟩
  go_wp2_with (at_builtin; refine stopAt ?_)
  refine Q1.out.mono ?_
  rintro e w1 ⟨Ap, cp, p, rfl, hpl, o1, b1⟩
  have hS := (Sep.start w).call b1 (x := .row 5 Ap cp p) o1
  simp only [List.cons_append, List.nil_append, List.set_cons_zero, List.set_cons_succ, List.map_cons, List.map_nil, List.getD_cons_zero, List.getD_cons_succ, Array.toList] at hS
  clear o1 b1
  go_wp2_with (at_builtin; refine stopAt ?_)
  refine (Q2.out _ hS.below).mono ?_
  rintro e w2 ⟨Aq, cq, q, rfl, hql, o2, b2⟩
  replace hS := hS.call b2 (x := .row 5 Aq cq q) o2
  simp only [List.cons_append, List.nil_append, List.set_cons_zero, List.set_cons_succ, List.map_cons, List.map_nil, List.getD_cons_zero, List.getD_cons_succ, Array.toList] at hS
  clear o2 b2 Q1 Q2
  go_wp2_with (at_builtin; refine stopAt ?_)
  refine (patchApply A0 Ap _ _ c0 cp 1099511627776 bs p _ rfl rfl (k0.rd.ext hS.below) (hS.rd 0 rfl) k0.cap (hS.own 0 rfl).cap (hS.own 0 rfl).cmax (by omega) (fun k hk => ((hS.own 0 rfl).lt k hk).2)).mono ?_
  rintro e w3 ⟨Ax, cx, rfl, o3, b3⟩
  replace hS := hS.call b3 (x := .row 5 Ax cx (applyRes bs p 1099511627776).1) o3
  simp only [List.cons_append, List.nil_append, List.set_cons_zero, List.set_cons_succ, List.map_cons, List.map_nil, List.getD_cons_zero, List.getD_cons_succ, Array.toList] at hS
  clear o3 b3
  go_wp2_with (at_builtin; refine stopAt ?_)
  refine (patchFold Ap Aq A0 _ _ _ cp cq c0 p q bs _ rfl rfl rfl (hS.rd 0 rfl) (hS.rd 1 rfl) (k0.rd.ext hS.below) (hS.own 0 rfl).cap (hS.own 0 rfl).cmax (hS.own 1 rfl).cap (hS.own 1 rfl).cmax k0.cap hpl hql hl0 (fun k hk => ((hS.own 0 rfl).lt k hk).2) (fun k hk => ((hS.own 1 rfl).lt k hk).2)).mono ?_
  rintro e w4 ⟨Ar, cr, r, er, rfl, hF, o4, b4⟩
  replace hS := hS.call b4 (x := .row 5 Ar cr r) o4
  simp only [List.cons_append, List.nil_append, List.set_cons_zero, List.set_cons_succ, List.map_cons, List.map_nil, List.getD_cons_zero, List.getD_cons_succ, Array.toList] at hS
  clear o4 b4
  unfold FoldRes at hF
  have hRl : (applyRes bs p 1099511627776).1.length ≤ 4000 := Nat.le_trans applyRes_len (by omega)
  have hTl : (applyRes (applyRes bs p 1099511627776).1 q 1099511627776).1.length ≤ 7000 := Nat.le_trans applyRes_len (by omega)
  have hap := fun (A : Option Addr) (c : Nat) (W : World) (hd : Rd W A (applyRes bs p 1099511627776).1) (hc : (applyRes bs p 1099511627776).1.length ≤ c) (hdq : Rd W Aq q) (hcq : q.length ≤ cq) (hmq : cq ≤ 9223372036854775807) (hbq : ∀ k, ablk Aq = some k → k < W.heap.size) =>
    patchApply A Aq _ _ c cq 1099511627776 (applyRes bs p 1099511627776).1 q W rfl rfl hd hdq hc hcq hmq (by omega) hbq
  generalize applyRes bs p 1099511627776 = R at *
  generalize applyRes R.1 q 1099511627776 = T at *
  have Hap := hide hap
  clear hap
  rcases hF with ⟨z, rfl, rfl⟩ | ⟨z, y, rfl, rfl⟩ | ⟨z, y, rfl, hM, hrl⟩
  · have hne : ((R.2 : Int) != 0) = true := by rw [bne_iff_ne]; omega
    go_wp2_with (at_builtin; refine stopAt ?_)
    refine (known_calls _).mono ?_
    rintro e w9 ⟨rfl, b9⟩
    replace hS := hS.ext b9
    clear b9
    have hbel := hS.below
    clear hS
    go_wp2
    go_ret
    exact ⟨rfl, hbel⟩
  · obtain ⟨R1, Rz⟩ := R
    simp only at z hRl hS Hap
    subst z
    have hne : ((T.2 : Int) != 0) = true := by rw [bne_iff_ne]; omega
    go_wp2_with (at_builtin; refine stopAt ?_)
    refine (Hap.out Ax cx _ (hS.rd 2 rfl) (hS.own 2 rfl).cap (hS.rd 1 rfl) (hS.own 1 rfl).cap (hS.own 1 rfl).cmax (fun k hk => ((hS.own 1 rfl).lt k hk).2)).mono ?_
    rintro e w5 ⟨Ay, cy, rfl, o5, b5⟩
    replace hS := hS.call b5 (x := .row 5 Ay cy T.1) o5
    clear o5 b5
    go_wp2_with (at_builtin; refine stopAt ?_)
    refine (known_calls _).mono ?_
    rintro e w9 ⟨rfl, b9⟩
    replace hS := hS.ext b9
    clear b9
    have hbel := hS.below
    clear hS
    go_wp2
    go_ret
    exact ⟨rfl, hbel⟩
  · obtain ⟨R1, Rz⟩ := R
    simp only at z hRl hS Hap
    subst z
    obtain ⟨T1, Tz⟩ := T
    simp only at y hTl hM hrl Hap
    subst y
    have HA := hide (made_apply hM (by omega) (by omega))
    clear hM
    have hrli : (r.length : Int) ≤ 12 + (T1.length : Int) := by omega
    go_wp2_with (at_builtin; refine stopAt ?_)
    refine (Hap.out Ax cx _ (hS.rd 2 rfl) (hS.own 2 rfl).cap (hS.rd 1 rfl) (hS.own 1 rfl).cap (hS.own 1 rfl).cmax (fun k hk => ((hS.own 1 rfl).lt k hk).2)).mono ?_
    rintro e w5 ⟨Ay, cy, rfl, o5, b5⟩
    replace hS := hS.call b5 (x := .row 5 Ay cy T1) o5
    simp only [List.cons_append, List.nil_append, List.set_cons_zero, List.set_cons_succ, List.map_cons, List.map_nil, List.getD_cons_zero, List.getD_cons_succ, Array.toList] at hS
    clear o5 b5
    go_wp2_with (at_builtin; refine stopAt ?_)
    refine (patchApply A0 Ar _ _ c0 cr (T1.length : Int) bs r _ rfl rfl (k0.rd.ext hS.below) (hS.rd 3 rfl) k0.cap (hS.own 3 rfl).cap (hS.own 3 rfl).cmax (by omega) (fun k hk => ((hS.own 3 rfl).lt k hk).2)).mono ?_
    rintro e w6 ⟨Az, cz, rfl, o6, b6⟩
    rw [HA.out] at o6 ⊢
    replace hS := hS.call b6 (x := .row 5 Az cz T1) o6
    simp only [List.cons_append, List.nil_append, List.set_cons_zero, List.set_cons_succ, List.map_cons, List.map_nil, List.getD_cons_zero, List.getD_cons_succ, Array.toList] at hS
    clear o6 b6
    go_wp2_with (at_builtin; refine stopAt ?_)
    refine (known_calls _).mono ?_
    rintro e w9 ⟨rfl, b9⟩
    replace hS := hS.ext b9
    clear b9
    have st0 := run_str (P := Try.prog) w9 Try.underlying22 Try.underlying5 (hS.rd 4 rfl) (c := cy) rfl Try.underlying9
    have st1 := run_str (P := Try.prog) w9 Try.underlying22 Try.underlying5 (hS.rd 5 rfl) (c := cz) rfl Try.underlying9
    have hbel := hS.below
    clear hS
    go_wp2
    go_ret
    exact ⟨rfl, hbel⟩
end Go.Proofs.Ytjfmendfhpgopaa
