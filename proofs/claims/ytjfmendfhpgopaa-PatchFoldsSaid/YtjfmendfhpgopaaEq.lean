/- What 'slices.Equal' of two rows of bytes computes. No condition. -/
import Derived.Test.YtjfmendfhpgopaaProg
import Derived.Test.YtjfmendfhpgopaaSep
import Derived.BigQuiet
import Derived.Deep.QuietTactic
namespace Go.Proofs.Ytjfmendfhpgopaa
set_option linter.all false
open Go.RowKit

theorem at8_eq (l m : List UInt8) (k : Nat) (hl : k < l.length) (hm : k < m.length) : at8 l k = at8 m k ↔ l[k] = m[k] := by
  unfold at8
  simp only [List.getD, List.getElem?_eq_getElem hl, List.getElem?_eq_getElem hm, Option.getD_some]
  constructor
  · intro h; exact UInt8.toNat_inj.1 (by omega)
  · intro h; rw [h]
theorem take_more (l m : List UInt8) (k : Nat) (hl : k < l.length) (hm : k < m.length) (h : l.take k = m.take k) (h1 : l[k] = m[k]) : l.take (k + 1) = m.take (k + 1) := by
  rw [List.take_succ_eq_append_getElem hl, List.take_succ_eq_append_getElem hm, h, h1]

set_option maxHeartbeats 1000000 in
theorem sliceEqual (A1 A2 : Option Addr) (n1 n2 c1 c2 : Nat) (l m : List UInt8) (w : World) (hn1 : n1 = l.length) (hn2 : n2 = m.length) (hr1 : Rd w A1 l) (hr2 : Rd w A2 m) (hl : l.length ≤ 140737488355328) (hm : m.length ≤ 140737488355328) (b : Bool) (hb : b = decide (l = m)) :
    Calls Try.prog 19 #[.slice A1 n1 c1, .slice A2 n2 c2] w fun e w' => e = .returned (.bool b) ∧ ∃ q, w' = w.drewN q := by
  subst hn1 hn2
  have Hb := hide hb
  clear hb
  by_cases hlen : l.length = m.length
  · have t1 : ((l.length : Int) != (m.length : Int)) = false := by rw [bne_eq_false_iff_eq]; omega
    have hle : l.length ≤ m.length := by omega
    have hge : m.length ≤ l.length := by omega
    have t2 := hide hlen
    clear hlen
    go_enter Try.func19, Try.ntmps19
    go_wp2
    go_loopw [5, 13] (fun _ i wr => ∃ k : Nat, k ≤ l.length ∧ i = .int .i64 k ∧ Hid (l.take k = m.take k) ∧ ∃ q, wr = w.drewN q) (fun _ i _ => l.length - (intOf i).toNat)
    case atStart => exact ⟨0, Nat.zero_le _, rfl, hide rfl, 0, rfl⟩
    case round =>
      obtain ⟨k, hk, rfl, htk, q, rfl⟩ := hrel
      by_cases hlt : k < l.length
      · obtain ⟨b1, o1, rfl, _, hc1⟩ := hr1.at_ (by omega)
        obtain ⟨b2, o2, rfl, _, hc2⟩ := hr2.at_ (by omega)
        have e1 := hc1 k hlt
        have e2 := hc2 k (by omega)
        have hx := at8_eq l m k hlt (by omega)
        have Htm := hide (take_more l m k hlt (by omega) htk.out)
        have hlt2 : (k : Int) < (m.length : Int) := by omega
        have hlt1 : (k : Int) < (l.length : Int) := by omega
        have H1 := hide hc1
        have H2 := hide hc2
        clear hc1 hc2
        by_cases hv : at8 l k = at8 m k
        · have hv1 := hide (hx.1 hv)
          clear hx
          generalize at8 l k = x at *
          have t3 : (x != at8 m k) = false := by rw [bne_eq_false_iff_eq]; exact hv
          have Hv := hide hv
          clear hv
          go_wp2_with (at_builtin; refine stopAt ?_)
          go_quiet (fail)
          go_wp2
          go_roundw
          case rel => exact ⟨k + 1, by omega, by go_num, hide (Htm.out hv1.out), _, rfl⟩
          case measure => simp [intOf]; omega
        · have t3 : (at8 l k != at8 m k) = true := by rw [bne_iff_ne]; exact hv
          have hne : l ≠ m := by
            intro e
            subst e
            exact hv rfl
          have Hne := hide hne
          clear hx hv hne
          go_wp2_with (at_builtin; refine stopAt ?_)
          go_quiet (fail)
          go_wp2
          go_ret
          exact ⟨by rw [Hb.out, decide_eq_false Hne.out]; rfl, _, World.drewN_drewN _ _ _⟩
      · have hge2 : l.length ≤ k := by omega
        go_wp2
        go_ret
        refine ⟨?_, q, rfl⟩
        have h1 := htk.out
        rw [List.take_of_length_le (by omega), List.take_of_length_le (by omega)] at h1
        rw [Hb.out, decide_eq_true h1]; rfl
  · have t1 : ((l.length : Int) != (m.length : Int)) = true := by rw [bne_iff_ne]; omega
    have hne : l ≠ m := fun e => hlen (by rw [e])
    have Hne := hide hne
    clear hlen hne
    go_enter Try.func19, Try.ntmps19
    go_wp2
    go_ret
    exact ⟨by rw [Hb.out, decide_eq_false Hne.out]; rfl, 0, rfl⟩
end Go.Proofs.Ytjfmendfhpgopaa
