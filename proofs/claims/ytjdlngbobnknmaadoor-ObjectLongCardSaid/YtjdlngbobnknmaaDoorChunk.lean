/- What 'slices.Chunk' of a row of bytes by 64 hands back, and the contract of the function that it makes. -/
import Derived.Test.YtjdlngbobnknmaaDoorProg
import Derived.Test.YtjdlngbobnknmaaDoorSep
import Derived.Test.YtjdlngbobnknmaaDoorRange
import Derived.LoopIn
import Derived.TacticsInMore
import Derived.BigFrameIn
import Derived.OwnWalkIn
import Derived.Deep.RegionHeld3
namespace Go.Proofs.YtjdlngbobnknmaaDoor
set_option linter.all false
open Go.RowKit
attribute [local go_sem] wide_depth wide_fn

set_option maxHeartbeats 400000 in
theorem chunk_calls (A : Option Addr) (n c : Nat) (w : World) :
    Calls Tryd.prog 27 #[.slice A n c, .int .i64 64] w fun e w' => e = .returned (.func (.func 37) #[] #[.pointer (some ⟨w.heap.size, 0, none⟩), .pointer (some ⟨w.heap.size + 1, 0, none⟩)]) ∧
      (w.alloc (.cells #[.slice A n c] 22)).alloc (.cells #[.int .i64 64] 3) = w' := by
  go_enter Tryd.func27, Tryd.ntmps27
  go_wp2
  go_ret
  exact ⟨rfl, rfl⟩

/-- The k-th part. -/
def chunkV (b o k : Nat) : Array Value := #[.slice (some ⟨b, o + 64 * k, none⟩) 64 64]

set_option maxHeartbeats 1000000 in
set_option maxRecDepth 100000 in
theorem chunk_in (w : World) (b o c n gs gn : Nat) (hs : Blk w gs 22 #[.slice (some ⟨b, o, none⟩) (64 * n) c]) (hn : Blk w gn 3 #[.int .i64 64]) (hlc : 64 * n ≤ c) (hc : c ≤ 9223372036854775807) (m : Nat) :
    SeqT Fence.wide m Tryd.prog 37 #[.pointer (some ⟨gs, 0, none⟩), .pointer (some ⟨gn, 0, none⟩)] (chunkV b o) (fun A B => A.grownBy B none) (fun W W' => W'.heap[gs]? = W.heap[gs]? ∧ W'.heap[gn]? = W.heap[gn]?) (fun pre x => pre = List.range x ∧ x < n)
      (fun xs => xs = List.range n) (fun _ => True) w := by
  intro lp J Jx W hW hJ hJx hY hst
  have hs0 : Blk W gs 22 #[.slice (some ⟨b, o, none⟩) (64 * n) c] := hs.below hW hs.lt
  have hn0 : Blk W gn 3 #[.int .i64 64] := hn.below hW hn.lt
  clear hs hn
  refine callsIn_of_wp Tryd.func37 rfl trivial ?_ rfl
  simp only [Tryd.ntmps37, List.size_toArray, List.length_cons, List.length_nil, Nat.reduceAdd, Nat.reduceSub, Array.replicate_succ, Array.replicate_zero, List.push_toArray, List.append_toArray, List.nil_append, List.cons_append]
  gi_wp2
  gi_loopw [4] (fun i wr => ∃ k : Nat, k ≤ n ∧ i = .int .i64 (64 * (k : Int)) ∧ Blk wr gs 22 #[.slice (some ⟨b, o, none⟩) (64 * n) c] ∧ Blk wr gn 3 #[.int .i64 64] ∧ J (List.range k) wr)
    (fun i _ => 64 * n - (intOf i).toNat)
  case atStart => exact ⟨0, Nat.zero_le _, rfl, hs0, hn0, hst⟩
  case round =>
    clear hs0 hn0 hst
    obtain ⟨k, hk, rfl, hs, hn, hj⟩ := hrel
    have c1 : wr.cell? ⟨gs, 0, none⟩ = some (.slice (some ⟨b, o, none⟩) (64 * n) c) := hs.cell 0
    have c2 : wr.cell? ⟨gn, 0, none⟩ = some (.int .i64 64) := hn.cell 0
    by_cases hlt : k < n
    · have i1 : 64 * (k : Int) < 64 * (n : Int) := by omega
      have i2 : (64 : Int) * (k : Int) ≤ ((64 * n : Nat) : Int) := by omega
      have i3 : 0 ≤ (64 : Int) * (k : Int) := by omega
      have t1 : ((64 : Int) * (k : Int)).toNat = 64 * k := by omega
      have t2 : (if (64 : Int) < ((64 * n - 64 * k : Nat) : Int) then (64 : Int) else ((64 * n - 64 * k : Nat) : Int)) = 64 := by split <;> omega
      gi_wp2
      refine wpIn_wide.2 ?_
      apply wp_meet
      · go_region
        all_goals exact ⟨rfl, rfl, rfl⟩
      have hj2 : J (List.range k) wr.drew := hJ _ _ _ hj ⟨rfl, rfl, rfl, Nat.le_refl _, fun _ _ _ => rfl⟩
      obtain ⟨fn, tm, asg, bo, hy, hR⟩ := hY (List.range k) k _ hj2 ⟨rfl, hlt⟩
      unfold chunkV at hy
      have j1 : IntKind.i64.wrap (64 * (k : Int) + 64) = 64 * (k : Int) + 64 := IntWalk.i64_in _ (by omega)
      have j2 : (64 * (k : Int) + 64).toNat = 64 * k + 64 := by omega
      have j3 : 64 * (k : Int) + 64 ≤ (c : Int) := by omega
      have hcut : cutA (some ⟨b, o, none⟩) (64 * k + 64) (64 * k) 1 = some ⟨b, o + 64 * k, none⟩ := by
        unfold cutA; rw [if_neg (by omega)]; simp [add_spot]
      gi_wp2
      refine hR.mono ?_
      rintro e W3 (⟨rfl, hJ3, hk3, hk4⟩ | ⟨rfl, hJx3⟩)
      · have hs3 : Blk W3 gs 22 #[.slice (some ⟨b, o, none⟩) (64 * n) c] := hk3.trans hs
        have hn3 : Blk W3 gn 3 #[.int .i64 64] := hk4.trans hn
        have d2 : W3.cell? ⟨gn, 0, none⟩ = some (.int .i64 64) := hn3.cell 0
        rw [← List.range_succ] at hJ3
        gi_wp2
        go_roundw
        case rel => exact ⟨k + 1, by omega, by congr 1, hs3, hn3, hJ3⟩
        case measure => simp [intOf]; omega
      · gi_wp2
        refine bodyPost_ret (results_none rfl _ _ _) rfl ?_
        exact ⟨⟨_, rfl⟩, .inr ⟨_, trivial, hJx3⟩⟩
    · obtain rfl : k = n := by omega
      gi_wp2
      go_end0
      exact ⟨⟨_, rfl⟩, .inl ⟨_, rfl, hj⟩⟩
end Go.Proofs.YtjdlngbobnknmaaDoor
