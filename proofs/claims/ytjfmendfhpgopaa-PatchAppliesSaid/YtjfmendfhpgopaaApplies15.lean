/- 'PatchApplies' returns true and leaves what there was. -/
import Derived.Test.YtjfmendfhpgopaaArgs15
import Derived.Test.YtjfmendfhpgopaaKnown15
import Derived.Test.YtjfmendfhpgopaaHeld
namespace Go.Proofs.Ytjfmendfhpgopaa
set_option linter.all false
open Go.RowKit

/-- A hunk with at most 100 of its bytes. -/
def trH (h : HRec) : HRec := ⟨h.f, h.t, h.A, h.c, h.b.take 100⟩
def trs (k : Nat) (hs : List HRec) : List HRec := (hs.take k).map trH
theorem trs_len (k : Nat) (hs : List HRec) (h : k ≤ hs.length) : (trs k hs).length = k := by simp [trs, List.length_take]; omega
theorem trs_succ (k : Nat) (hs : List HRec) (h : k < hs.length) : trs (k + 1) hs = trs k hs ++ [trH hs[k]] := by
  unfold trs
  rw [List.take_succ_eq_append_getElem h, List.map_append]; rfl
theorem bodyLen_trs (k : Nat) (hs : List HRec) : bodyLen (trs k hs) ≤ 100 * (trs k hs).length := by
  unfold trs
  generalize hs.take k = l
  induction l with
  | nil => exact Nat.le_refl _
  | cons h l ih =>
    simp only [bodyLen, List.map_cons, List.sum_cons, List.length_cons] at ih ⊢
    have : (trH h).b.length ≤ 100 := by simp [trH, List.length_take]; omega
    omega
theorem trs_rd {w w' : World} {A : Option Addr} {hs : List HRec} (h : RdH w A hs) (hb : Below w.heap.size w w') (k : Nat) : ∀ x ∈ trs k hs, Rd w' x.A x.b := by
  intro x hx
  obtain ⟨y, hy, rfl⟩ := List.mem_map.1 hx
  exact ((h.2 y (List.mem_of_mem_take hy)).take 100).ext hb

set_option maxHeartbeats 1000000 in
set_option maxRecDepth 100000 in
theorem patchApplies_walk {A0 A1 A2 : Option Addr} {n0 n1 n2 c0 c1 c2 : Nat} {b0 p0 : List UInt8} {hs : List HRec} {most : Int} (w : World) (q0 : Arg w A0 n0 c0 b0) (q1 : Arg w A1 n1 c1 p0) (q2 : ArgH w A2 n2 c2 hs) (_q3 : (Lit.int .i64 most).wf = true) :
    Calls Try.prog 3 #[.slice A0 n0 c0, .slice A1 n1 c1, .slice A2 n2 c2, .int .i64 most] w fun e w' => e = .returned (.bool true) ∧ Below w.heap.size w w' := by
  have k0 := q0.take 1000
  have k1 := q1.take 1000
  have hl0 : (b0.take 1000).length ≤ 1000 := by rw [List.length_take]; omega
  have hl1 : (p0.take 1000).length ≤ 1000 := by rw [List.length_take]; omega
  have hf0 := few_calls A0 n0 c0 w (by have := q0.len; have := q0.cap; omega) q0.max
  have hf1 := few_calls A1 n1 c1 w (by have := q1.len; have := q1.cap; omega) q1.max
  rw [k0.len] at hf0
  rw [k1.len] at hf1
  have hn2 := q2.len
  subst hn2
  generalize b0.take 1000 = bs at *
  generalize p0.take 1000 = ps at *
  have F0 := hide hf0
  have F1 := hide hf1
  clear hf0 hf1 q0 q1
  have hmax := q2.max
  have hcap2 := q2.cap
  go_enter Try.func3, Try.ntmps3
  go_wp2_with (at_builtin; refine stopAt ?_)
  refine F0.out.mono ?_
  rintro e w' ⟨rfl, rfl⟩
  go_wp2_with (at_builtin; refine stopAt ?_)
  refine F1.out.mono ?_
  rintro e w' ⟨rfl, rfl⟩
  go_wp2_with (at_builtin; refine stopAt ?_)
  go_loopw [9, 10] (fun m i wr => ∃ k : Nat, k ≤ hs.length ∧ k ≤ 20 ∧ i = .int .i64 k ∧ ∃ A' c', m = .slice A' k c' ∧ OwnR wr w.heap.size 26 3 A' k c' (hcells (trs k hs)) ∧ Below w.heap.size w wr)
    (fun _ i _ => hs.length - (intOf i).toNat)
  case atStart => exact ⟨0, Nat.zero_le _, Nat.zero_le _, rfl, none, 0, rfl, OwnR.nil _ _ _ _, Below.refl _ _⟩
  case round =>
    obtain ⟨k, hk, hk20, rfl, A', c', rfl, hown, hbel⟩ := hrel
    have hsz := hbel.size
    by_cases hgo : k < hs.length ∧ k < 20
    · obtain ⟨hlt, hlt20⟩ := hgo
      have hlt20' : (k : Int) < 20 := by omega
      have hrw := q2.rd.ext hbel
      obtain ⟨b, o, rfl, hblt, hc⟩ := hrw.at_ (by omega)
      obtain ⟨g0, g1, g2⟩ := hc k hlt
      have htr := hide (trs_succ k hs hlt)
      obtain ⟨hcp1, hcp2⟩ := q2.caps hs[k] (List.getElem_mem hlt)
      clear hc hrw
      have hxr := (q2.rd.2 hs[k] (List.getElem_mem hlt)).ext hbel
      generalize hs[k] = x at *
      have hnew := fun y : Nat => OwnR.new (size := 3) (base := w.heap.size) wr.drew 26 #[.int .i64 x.f, .int .i64 x.t, .slice x.A y x.c] 1 hsz rfl (by simp [maxLen])
      have hownd : OwnR wr.drew w.heap.size 26 3 A' k c' (hcells (trs k hs)) := hown
      have hbeld : Below w.heap.size w wr.drew := hbel.drew
      have hszd : w.heap.size ≤ wr.drew.heap.size := hsz
      have hstep : ∀ (y : Nat) A3 c3 w3, (x.b.take 100).length = y → OwnR w3 w.heap.size 26 3 A3 (k + 1) c3 (hcells (trs k hs) ++ [.int .i64 x.f, .int .i64 x.t, .slice x.A y x.c]) → OwnR w3 w.heap.size 26 3 A3 (k + 1) c3 (hcells (trs (k + 1) hs)) := by
        intro y A3 c3 w3 hy h
        have e : hcells (trs (k + 1) hs) = hcells (trs k hs) ++ [.int .i64 x.f, .int .i64 x.t, .slice x.A y x.c] := by
          rw [htr.out]; simp [hcells, HRec.cells, trH, ← hy]
        rw [e]; exact h
      have Hstep := hide hstep
      clear hstep
      obtain ⟨y, hy⟩ : ∃ y, (x.b.take 100).length = y := ⟨_, rfl⟩
      have hmin : (if (100 : Int) < (x.b.length : Int) then (100 : Int) else (x.b.length : Int)) = (y : Int) := by
        rw [List.length_take] at hy; split <;> omega
      have hyc : (y : Int) ≤ (x.c : Int) := by rw [List.length_take] at hy; omega
      have Hy := hide hy
      have Hnew := hide hnew
      have Hown := hide hownd
      have hown := 0
      clear hy hnew hownd hxr hown
      have hbb : b < w.heap.size := by
        obtain ⟨b2, o2, e2, h2, _⟩ := q2.rd.at_ (by omega)
        cases e2; exact h2
      have hcs : ∀ W : World, (∀ k : Nat, k < w.heap.size → W.heap[k]? = wr.heap[k]?) → ∀ j u, wr.cell? ⟨b, j, none⟩ = some u → W.cell? ⟨b, j, none⟩ = some u := fun W hW j u h => by
        rw [World.cell?_of_block (w := wr) (w' := W) (hW b hbb)]; exact h
      have Hcs := hide hcs
      clear hcs
      go_wp2_with (at_builtin; refine stopAt ?_)
      refine wp_region_L (fun W' => W'.cell? ⟨b, o + k * 3, none⟩ = some (.int .i64 x.f) ∧ W'.cell? ⟨b, o + k * 3 + 1, none⟩ = some (.int .i64 x.t) ∧ W'.cell? ⟨b, o + k * 3 + 2, none⟩ = some (.slice x.A x.b.length x.c)) (by kernel_rfl) ?_
      have hS0 : (fun W' => W'.cell? ⟨b, o + k * 3, none⟩ = some (.int .i64 x.f) ∧ W'.cell? ⟨b, o + k * 3 + 1, none⟩ = some (.int .i64 x.t) ∧ W'.cell? ⟨b, o + k * 3 + 2, none⟩ = some (.slice x.A x.b.length x.c)) wr.drew := ⟨g0, g1, g2⟩
      refine' wpAnyL_take (i := 0) (v := _) rfl (by kernel_rfl) (by kernel_rfl) (by kernel_rfl) (fun _ _ _ h => h) hS0 (Or.inl ⟨by rfl, ?_⟩) ?_
      rotate_left
      · (intro W0 hW0; (try dsimp only at hW0); go_split_ands; go_simp; (first | done | rfl))
      simp only [List.getElem_toArray, List.getElem_cons_succ, List.getElem_cons_zero, Act.put, List.setIfInBounds_toArray, List.set_cons_zero, List.set_cons_succ]
      refine' wpAnyL_take (i := 1) (v := _) rfl (by kernel_rfl) (by kernel_rfl) (by kernel_rfl) (fun _ _ _ h => h) hS0 (Or.inl ⟨by rfl, ?_⟩) ?_
      rotate_left
      · (intro W0 hW0; (try dsimp only at hW0); go_split_ands; go_simp; (first | done | rfl))
      simp only [List.getElem_toArray, List.getElem_cons_succ, List.getElem_cons_zero, Act.put, List.setIfInBounds_toArray, List.set_cons_zero, List.set_cons_succ]
      refine' wpAnyL_take (i := 2) (v := _) rfl (by kernel_rfl) (by kernel_rfl) (by kernel_rfl) (fun _ _ _ h => h) hS0 (Or.inl ⟨by rfl, ?_⟩) ?_
      rotate_left
      · (intro W0 hW0; (try dsimp only at hW0); go_split_ands; go_simp; (first | done | rfl))
      simp only [List.getElem_toArray, List.getElem_cons_succ, List.getElem_cons_zero, Act.put, List.setIfInBounds_toArray, List.set_cons_zero, List.set_cons_succ]
      refine' wpAnyL_take (i := 3) (v := _) rfl (by kernel_rfl) (by kernel_rfl) (by kernel_rfl) (fun _ _ _ h => h) hS0 (Or.inl ⟨by rfl, ?_⟩) ?_
      rotate_left
      · (intro W0 hW0; (try dsimp only at hW0); go_split_ands; go_simp; (first | done | rfl))
      simp only [List.getElem_toArray, List.getElem_cons_succ, List.getElem_cons_zero, Act.put, List.setIfInBounds_toArray, List.set_cons_zero, List.set_cons_succ]
      refine' wpAnyL_take (i := 4) (v := _) rfl (by kernel_rfl) (by kernel_rfl) (by kernel_rfl) (fun _ _ _ h => h) hS0 (Or.inl ⟨by rfl, ?_⟩) ?_
      rotate_left
      · (intro W0 hW0; (try dsimp only at hW0); go_split_ands; go_simp; (first | done | rfl))
      simp only [List.getElem_toArray, List.getElem_cons_succ, List.getElem_cons_zero, Act.put, List.setIfInBounds_toArray, List.set_cons_zero, List.set_cons_succ]
      refine' wpAnyL_take (i := 5) (v := _) rfl (by kernel_rfl) (by kernel_rfl) (by kernel_rfl) (fun _ _ _ h => h) hS0 (Or.inl ⟨by rfl, ?_⟩) ?_
      rotate_left
      · (intro W0 hW0; (try dsimp only at hW0); go_split_ands; go_simp; (first | done | rfl))
      simp only [List.getElem_toArray, List.getElem_cons_succ, List.getElem_cons_zero, Act.put, List.setIfInBounds_toArray, List.set_cons_zero, List.set_cons_succ]
      refine' wpAnyL_take (i := 6) (v := _) rfl (by kernel_rfl) (by kernel_rfl) (by kernel_rfl) (fun _ _ _ h => h) hS0 (Or.inl ⟨by rfl, ?_⟩) ?_
      rotate_left
      · (intro W0 hW0; (try dsimp only at hW0); go_split_ands; go_simp; (first | done | rfl))
      simp only [List.getElem_toArray, List.getElem_cons_succ, List.getElem_cons_zero, Act.put, List.setIfInBounds_toArray, List.set_cons_zero, List.set_cons_succ]
      refine' wpAnyL_take (i := 7) (v := _) rfl (by kernel_rfl) (by kernel_rfl) (by kernel_rfl) (fun _ _ _ h => h) hS0 (Or.inl ⟨by rfl, ?_⟩) ?_
      rotate_left
      · (intro W0 hW0; (try dsimp only at hW0); go_split_ands; go_simp; (first | done | rfl))
      simp only [List.getElem_toArray, List.getElem_cons_succ, List.getElem_cons_zero, Act.put, List.setIfInBounds_toArray, List.set_cons_zero, List.set_cons_succ]
      refine' wpAnyL_take (i := 8) (v := _) rfl (by kernel_rfl) (by kernel_rfl) (by kernel_rfl) (fun _ _ _ h => h) hS0 (Or.inl ⟨by rfl, ?_⟩) ?_
      rotate_left
      · (intro W0 hW0; (try dsimp only at hW0); go_split_ands; go_simp; (first | done | rfl))
      simp only [List.getElem_toArray, List.getElem_cons_succ, List.getElem_cons_zero, Act.put, List.setIfInBounds_toArray, List.set_cons_zero, List.set_cons_succ]
      refine' wpAnyL_take (i := 9) (v := _) rfl (by kernel_rfl) (by kernel_rfl) (by kernel_rfl) (fun _ _ _ h => h) hS0 (Or.inl ⟨by rfl, ?_⟩) ?_
      rotate_left
      · (intro W0 hW0; (try dsimp only at hW0); go_split_ands; go_simp; (first | done | rfl))
      simp only [List.getElem_toArray, List.getElem_cons_succ, List.getElem_cons_zero, Act.put, List.setIfInBounds_toArray, List.set_cons_zero, List.set_cons_succ]
      refine' wpAnyL_take (i := 10) (v := _) rfl (by kernel_rfl) (by kernel_rfl) (by kernel_rfl) (fun _ _ _ h => h) hS0 (Or.inl ⟨by rfl, ?_⟩) ?_
      rotate_left
      · (intro W0 hW0; (try dsimp only at hW0); go_split_ands; go_simp; (first | done | rfl))
      simp only [List.getElem_toArray, List.getElem_cons_succ, List.getElem_cons_zero, Act.put, List.setIfInBounds_toArray, List.set_cons_zero, List.set_cons_succ]
      refine' wpAnyL_take (i := 11) (v := _) rfl (by kernel_rfl) (by kernel_rfl) (by kernel_rfl) (fun _ _ _ h => h) hS0 (Or.inl ⟨by rfl, ?_⟩) ?_
      rotate_left
      · (intro W0 hW0; (try dsimp only at hW0); go_split_ands; go_simp; (first | done | rfl))
      simp only [List.getElem_toArray, List.getElem_cons_succ, List.getElem_cons_zero, Act.put, List.setIfInBounds_toArray, List.set_cons_zero, List.set_cons_succ]
      refine' wpAnyL_take (i := 12) (v := _) rfl (by kernel_rfl) (by kernel_rfl) (by kernel_rfl) (fun _ _ _ h => h) hS0 (Or.inl ⟨by rfl, ?_⟩) ?_
      rotate_left
      · (intro W0 hW0; (try dsimp only at hW0); go_split_ands; go_simp; (first | done | rfl))
      simp only [List.getElem_toArray, List.getElem_cons_succ, List.getElem_cons_zero, Act.put, List.setIfInBounds_toArray, List.set_cons_zero, List.set_cons_succ]
      refine' wpAnyL_take (i := 13) (v := _) rfl (by kernel_rfl) (by kernel_rfl) (by kernel_rfl) (fun _ _ _ h => h) hS0 (Or.inl ⟨by rfl, ?_⟩) ?_
      rotate_left
      · (intro W0 hW0; (try dsimp only at hW0); go_split_ands; go_simp; (first | done | rfl))
      simp only [List.getElem_toArray, List.getElem_cons_succ, List.getElem_cons_zero, Act.put, List.setIfInBounds_toArray, List.set_cons_zero, List.set_cons_succ]
      refine' wpAnyL_take (i := 14) (v := _) rfl (by kernel_rfl) (by kernel_rfl) (by kernel_rfl) (fun _ _ _ h => h) hS0 (Or.inl ⟨by rfl, ?_⟩) ?_
      rotate_left
      · (intro W0 hW0; (try dsimp only at hW0); go_split_ands; go_simp; (first | done | rfl))
      simp only [List.getElem_toArray, List.getElem_cons_succ, List.getElem_cons_zero, Act.put, List.setIfInBounds_toArray, List.set_cons_zero, List.set_cons_succ]
      refine' wpAnyL_take (i := 15) (v := _) rfl (by kernel_rfl) (by kernel_rfl) (by kernel_rfl) (fun _ _ _ h => h) hS0 (Or.inl ⟨by rfl, ?_⟩) ?_
      rotate_left
      · (intro W0 hW0; (try dsimp only at hW0); go_split_ands; go_simp; (first | done | rfl))
      simp only [List.getElem_toArray, List.getElem_cons_succ, List.getElem_cons_zero, Act.put, List.setIfInBounds_toArray, List.set_cons_zero, List.set_cons_succ]
      refine' wpAnyL_take (i := 16) (v := _) rfl (by kernel_rfl) (by kernel_rfl) (by kernel_rfl) (fun _ _ _ h => h) hS0 (Or.inl ⟨by rfl, ?_⟩) ?_
      rotate_left
      · (intro W0 hW0; (try dsimp only at hW0); go_split_ands; go_simp; (first | done | rfl))
      simp only [List.getElem_toArray, List.getElem_cons_succ, List.getElem_cons_zero, Act.put, List.setIfInBounds_toArray, List.set_cons_zero, List.set_cons_succ]
      refine' wpAnyL_take (i := 17) (v := _) rfl (by kernel_rfl) (by kernel_rfl) (by kernel_rfl) (fun _ _ _ h => h) hS0 (Or.inl ⟨by rfl, ?_⟩) ?_
      rotate_left
      · (intro W0 hW0; (try dsimp only at hW0); go_split_ands; go_simp; (first | done | rfl))
      simp only [List.getElem_toArray, List.getElem_cons_succ, List.getElem_cons_zero, Act.put, List.setIfInBounds_toArray, List.set_cons_zero, List.set_cons_succ]
      refine' wpAnyL_take (i := 18) (v := _) rfl (by kernel_rfl) (by kernel_rfl) (by kernel_rfl) (fun _ _ _ h => h) hS0 (Or.inl ⟨by rfl, ?_⟩) ?_
      rotate_left
      · (intro W0 hW0; (try dsimp only at hW0); go_split_ands; go_simp; (first | done | rfl))
      simp only [List.getElem_toArray, List.getElem_cons_succ, List.getElem_cons_zero, Act.put, List.setIfInBounds_toArray, List.set_cons_zero, List.set_cons_succ]
      refine' wpAnyL_take (i := 19) (v := _) rfl (by kernel_rfl) (by kernel_rfl) (by kernel_rfl) (fun _ _ _ h => h) hS0 (Or.inl ⟨by rfl, ?_⟩) ?_
      rotate_left
      · (intro W0 hW0; (try dsimp only at hW0); go_split_ands; go_simp; (first | done | rfl))
      simp only [List.getElem_toArray, List.getElem_cons_succ, List.getElem_cons_zero, Act.put, List.setIfInBounds_toArray, List.set_cons_zero, List.set_cons_succ]
      refine' wpAnyL_take (i := 20) (v := _) rfl (by kernel_rfl) (by kernel_rfl) (by kernel_rfl) (fun _ _ _ h => h) hS0 (Or.inl ⟨by rfl, ?_⟩) ?_
      rotate_left
      · (intro W0 hW0; (try dsimp only at hW0); go_split_ands; go_simp; (first | done | rfl))
      simp only [List.getElem_toArray, List.getElem_cons_succ, List.getElem_cons_zero, Act.put, List.setIfInBounds_toArray, List.set_cons_zero, List.set_cons_succ]
      refine' wpAnyL_take (i := 21) (v := _) rfl (by kernel_rfl) (by kernel_rfl) (by kernel_rfl) (fun _ _ _ h => h) hS0 (Or.inl ⟨by rfl, ?_⟩) ?_
      rotate_left
      · (intro W0 hW0; (try dsimp only at hW0); go_split_ands; go_simp; (first | done | rfl))
      simp only [List.getElem_toArray, List.getElem_cons_succ, List.getElem_cons_zero, Act.put, List.setIfInBounds_toArray, List.set_cons_zero, List.set_cons_succ]
      refine' wpAnyL_take (i := 22) (v := _) rfl (by kernel_rfl) (by kernel_rfl) (by kernel_rfl) (fun _ _ _ h => h) hS0 (Or.inl ⟨by rfl, ?_⟩) ?_
      rotate_left
      · (intro W0 hW0; (try dsimp only at hW0); go_split_ands; go_simp; (first | done | rfl))
      simp only [List.getElem_toArray, List.getElem_cons_succ, List.getElem_cons_zero, Act.put, List.setIfInBounds_toArray, List.set_cons_zero, List.set_cons_succ]
      refine' wpAnyL_take (i := 23) (v := _) rfl (by kernel_rfl) (by kernel_rfl) (by kernel_rfl) (fun _ _ _ h => h) hS0 (Or.inl ⟨by rfl, ?_⟩) ?_
      rotate_left
      · (intro W0 hW0; (try dsimp only at hW0); go_split_ands; go_simp; (first | done | rfl))
      simp only [List.getElem_toArray, List.getElem_cons_succ, List.getElem_cons_zero, Act.put, List.setIfInBounds_toArray, List.set_cons_zero, List.set_cons_succ]
      refine' wpAnyL_take (i := 24) (v := _) rfl (by kernel_rfl) (by kernel_rfl) (by kernel_rfl) (fun _ _ _ h => h) hS0 (Or.inl ⟨by rfl, ?_⟩) ?_
      rotate_left
      · (intro W0 hW0; (try dsimp only at hW0); go_split_ands; go_simp; (first | done | rfl))
      simp only [List.getElem_toArray, List.getElem_cons_succ, List.getElem_cons_zero, Act.put, List.setIfInBounds_toArray, List.set_cons_zero, List.set_cons_succ]
      refine wpAnyL_one (i := 25) rfl (by kernel_rfl) (fun K hK' => ?_)
      simp only [List.getElem_toArray, List.getElem_cons_succ, List.getElem_cons_zero]
      rw [if_pos (by rfl)]
      go_simp
      refine hK' _ _ ⟨Hcs.out _ (fun k hk => Below.heap_alloc wr _ k (by omega)) _ _ g0, Hcs.out _ (fun k hk => Below.heap_alloc wr _ k (by omega)) _ _ g1, Hcs.out _ (fun k hk => Below.heap_alloc wr _ k (by omega)) _ _ g2⟩ ?_
      clear hK' hS0
      try simp only [Act.put, List.setIfInBounds_toArray, List.set_cons_zero, List.set_cons_succ]
      refine wpAnyL_one (i := 26) rfl (by kernel_rfl) (fun K hK' => ?_)
      simp only [List.getElem_toArray, List.getElem_cons_succ, List.getElem_cons_zero]
      rw [if_pos (by rfl)]
      refine wp_appR _ (.tmp 36) (.tmp 61) rowH rfl (A := A') (n := k) (c := c') (A2 := some ⟨wr.heap.size, 0, none⟩) (m := 1) (c2 := 1) ?e1 ?e2 (Hown.out.alloc _) (Hnew.out y).rd rfl (by omega) (by simp [Value.oneCell']) (by omega) (by omega) (by simp; omega) ?_
      case e1 => rfl
      case e2 => rfl
      intro A3 c3 w3 hown3 hg3 _
      have hbel3 := (Hown.out.alloc (.cells #[.int .i64 x.f, .int .i64 x.t, .slice x.A y x.c] 26)).below (hbeld.alloc hszd _) (by simp; omega) (Nat.le_refl _) hg3
      have hown4 := Hstep.out y A3 c3 w3 Hy.out hown3
      clear hown3 hg3
      have hk3 : ∀ k : Nat, k < w.heap.size → w3.heap[k]? = wr.heap[k]? := fun k hk => (hbel3.block k hk).trans (hbel.block k hk).symm
      refine hK' _ _ ⟨Hcs.out _ hk3 _ _ g0, Hcs.out _ hk3 _ _ g1, Hcs.out _ hk3 _ _ g2⟩ ?_
      clear hK' K
      simp only [Act.put, List.setIfInBounds_toArray, List.set_cons_zero, List.set_cons_succ]
      refine wpAnyL_last (i := 27) rfl (by kernel_rfl) (by kernel_rfl) (by kernel_rfl) (fun K hK => ?_)
      simp only [List.getElem_toArray, List.getElem_cons_succ, List.getElem_cons_zero]
      go_simp
      refine hK _ _ (NoPanic.normal ?_)
      clear hK K
      go_wp2
      go_roundw
      case rel => exact ⟨k + 1, by omega, by omega, by go_num, A3, c3, rfl, hown4, hbel3⟩
      case measure => simp [intOf]; omega
    · have htl := trs_len k hs hk
      have hbl := bodyLen_trs k hs
      have hrdm : RdH wr A' (trs k hs) := ⟨hown.rd, trs_rd q2.rd hbel k⟩
      generalize trs k hs = ms at *
      have hprl := printB_len ms
      have hpr := refPrint A' k c' ms wr htl.symm hrdm (by omega) (by omega)
      generalize printB ms = pp at *
      have Hpr := hide hpr
      clear hpr
      have hwalk : ∀ P Q : Prop, (¬ (k < hs.length ∧ k < 20)) → (k = hs.length → P) → (k < hs.length → k = 20 → P) → P := fun P _ h h1 h2 => by
        rcases Nat.lt_or_ge k hs.length with h3 | h3
        · exact h2 h3 (by omega)
        · exact h1 (by omega)
      refine hwalk _ True hgo (fun he => ?_) (fun hlt he => ?_)
      · subst he
        go_wp2_with (at_builtin; refine stopAt ?_)
        refine Hpr.out.mono ?_
        rintro e w1 ⟨Ap, cp, rfl, hop, hbp⟩
        have hb1 := hbel.trans (hbp.mono hsz)
        have hs1 := hb1.size
        have hsp := hbp.size
        have hcp := hop.cap
        have hcm := hop.cmax
        have hppl : pp.length ≤ 100000 := by omega
        have hk := hop.lt
        clear hrdm Hpr hgo hwalk hprl hbl htl hown
        have st0 := run_str (P := Try.prog) w1.drew Try.underlying22 Try.underlying5 (k0.rd.ext hb1).drew (c := c0) rfl Try.underlying9
        have st1 := run_str (P := Try.prog) w1.drew Try.underlying22 Try.underlying5 (k1.rd.ext hb1).drew (c := c1) rfl Try.underlying9
        go_wp2_with (at_builtin; refine stopAt ?_)
        go_region
        have hb2 := hb1.drew
        have hs2 := hb2.size
        have hop2 : Rd w1.drew Ap pp := hop.rd
        have hk2 : ∀ k, ablk Ap = some k → k < w1.drew.heap.size := fun k hk' => (hk k hk').2
        clear st0 st1 hbp hop hk
        revert hop2 hk2 hb2 hs2
        generalize w1.drew = w2
        intro hb2 hs2 hop2 hk2
        go_wp2_with (at_builtin; refine stopAt ?_)
        refine (patchApply A0 A1 _ _ c0 c1 most bs ps w2 rfl rfl (k0.rd.ext hb2) (k1.rd.ext hb2) k0.cap k1.cap k1.max (by omega) (fun k hk => Nat.lt_of_lt_of_le (k1.blk k hk) hs2)).mono ?_
        rintro e w3 ⟨R1, d1, rfl, o1, b3⟩
        have hb3 := hb2.trans (b3.mono hs2)
        have hs3 := hb3.size
        have hop3 := hop2.ext b3
        have hk3 : ∀ k, ablk Ap = some k → k < w3.heap.size := fun k hk => Nat.lt_of_lt_of_le (hk2 k hk) b3.size
        go_wp2_with (at_builtin; refine stopAt ?_)
        refine (refApply A0 A1 _ _ c0 c1 most bs ps w3 rfl rfl (k0.rd.ext hb3) (k1.rd.ext hb3) k0.cap k1.cap k1.max (by omega)).mono ?_
        rintro e w4 ⟨R2, d2, rfl, o2, b4⟩
        have hb4 := hb3.trans (b4.mono hs3)
        have hs4 := hb4.size
        have hop4 := hop3.ext b4
        have hk4 : ∀ k, ablk Ap = some k → k < w4.heap.size := fun k hk => Nat.lt_of_lt_of_le (hk3 k hk) b4.size
        go_wp2_with (at_builtin; refine stopAt ?_)
        refine (patchApply A0 Ap _ _ c0 cp most bs pp w4 rfl rfl (k0.rd.ext hb4) hop4 k0.cap hcp hcm (by omega) hk4).mono ?_
        rintro e w5 ⟨R3, d3, rfl, o3, b5⟩
        have hb5 := hb4.trans (b5.mono hs4)
        have hs5 := hb5.size
        have hop5 := hop4.ext b5
        go_wp2_with (at_builtin; refine stopAt ?_)
        refine (refApply A0 Ap _ _ c0 cp most bs pp w5 rfl rfl (k0.rd.ext hb5) hop5 k0.cap hcp hcm (by omega)).mono ?_
        rintro e w6 ⟨R4, d4, rfl, o4, b6⟩
        have hb6 := hb5.trans (b6.mono hs5)
        have hs6 := hb6.size
        go_wp2_with (at_builtin; refine stopAt ?_)
        refine (known_calls w6).mono ?_
        rintro e w7 ⟨rfl, b7⟩
        have hb7 := hb6.trans (b7.mono hs6)
        have st0 := run_str (P := Try.prog) w7 Try.underlying22 Try.underlying5 (k0.rd.ext hb7) (c := c0) rfl Try.underlying9
        have st1 := run_str (P := Try.prog) w7 Try.underlying22 Try.underlying5 (k1.rd.ext hb7) (c := c1) rfl Try.underlying9
        have st2 := run_str (P := Try.prog) w7 Try.underlying22 Try.underlying5 ((((o1.rd.ext b4).ext b5).ext b6).ext b7) (c := d1) rfl Try.underlying9
        have st3 := run_str (P := Try.prog) w7 Try.underlying22 Try.underlying5 (((o2.rd.ext b5).ext b6).ext b7) (c := d2) rfl Try.underlying9
        have st4 := run_str (P := Try.prog) w7 Try.underlying22 Try.underlying5 ((o3.rd.ext b6).ext b7) (c := d3) rfl Try.underlying9
        have st5 := run_str (P := Try.prog) w7 Try.underlying22 Try.underlying5 (o4.rd.ext b7) (c := d4) rfl Try.underlying9
        clear o1 o2 o3 o4 b3 b4 b5 b6 b7
        go_wp2
        go_ret
        exact ⟨rfl, hb7⟩
      · subst he
        have hlti : (20 : Int) < (hs.length : Int) := by omega
        go_wp2_with (at_builtin; refine stopAt ?_)
        refine Hpr.out.mono ?_
        rintro e w1 ⟨Ap, cp, rfl, hop, hbp⟩
        have hb1 := hbel.trans (hbp.mono hsz)
        have hs1 := hb1.size
        have hsp := hbp.size
        have hcp := hop.cap
        have hcm := hop.cmax
        have hppl : pp.length ≤ 100000 := by omega
        have hk := hop.lt
        clear hrdm Hpr hgo hwalk hprl hbl htl hown
        have st0 := run_str (P := Try.prog) w1.drew Try.underlying22 Try.underlying5 (k0.rd.ext hb1).drew (c := c0) rfl Try.underlying9
        have st1 := run_str (P := Try.prog) w1.drew Try.underlying22 Try.underlying5 (k1.rd.ext hb1).drew (c := c1) rfl Try.underlying9
        go_wp2_with (at_builtin; refine stopAt ?_)
        go_region
        have hb2 := hb1.drew
        have hs2 := hb2.size
        have hop2 : Rd w1.drew Ap pp := hop.rd
        have hk2 : ∀ k, ablk Ap = some k → k < w1.drew.heap.size := fun k hk' => (hk k hk').2
        clear st0 st1 hbp hop hk
        revert hop2 hk2 hb2 hs2
        generalize w1.drew = w2
        intro hb2 hs2 hop2 hk2
        go_wp2_with (at_builtin; refine stopAt ?_)
        refine (patchApply A0 A1 _ _ c0 c1 most bs ps w2 rfl rfl (k0.rd.ext hb2) (k1.rd.ext hb2) k0.cap k1.cap k1.max (by omega) (fun k hk => Nat.lt_of_lt_of_le (k1.blk k hk) hs2)).mono ?_
        rintro e w3 ⟨R1, d1, rfl, o1, b3⟩
        have hb3 := hb2.trans (b3.mono hs2)
        have hs3 := hb3.size
        have hop3 := hop2.ext b3
        have hk3 : ∀ k, ablk Ap = some k → k < w3.heap.size := fun k hk => Nat.lt_of_lt_of_le (hk2 k hk) b3.size
        go_wp2_with (at_builtin; refine stopAt ?_)
        refine (refApply A0 A1 _ _ c0 c1 most bs ps w3 rfl rfl (k0.rd.ext hb3) (k1.rd.ext hb3) k0.cap k1.cap k1.max (by omega)).mono ?_
        rintro e w4 ⟨R2, d2, rfl, o2, b4⟩
        have hb4 := hb3.trans (b4.mono hs3)
        have hs4 := hb4.size
        have hop4 := hop3.ext b4
        have hk4 : ∀ k, ablk Ap = some k → k < w4.heap.size := fun k hk => Nat.lt_of_lt_of_le (hk3 k hk) b4.size
        go_wp2_with (at_builtin; refine stopAt ?_)
        refine (patchApply A0 Ap _ _ c0 cp most bs pp w4 rfl rfl (k0.rd.ext hb4) hop4 k0.cap hcp hcm (by omega) hk4).mono ?_
        rintro e w5 ⟨R3, d3, rfl, o3, b5⟩
        have hb5 := hb4.trans (b5.mono hs4)
        have hs5 := hb5.size
        have hop5 := hop4.ext b5
        go_wp2_with (at_builtin; refine stopAt ?_)
        refine (refApply A0 Ap _ _ c0 cp most bs pp w5 rfl rfl (k0.rd.ext hb5) hop5 k0.cap hcp hcm (by omega)).mono ?_
        rintro e w6 ⟨R4, d4, rfl, o4, b6⟩
        have hb6 := hb5.trans (b6.mono hs5)
        have hs6 := hb6.size
        go_wp2_with (at_builtin; refine stopAt ?_)
        refine (known_calls w6).mono ?_
        rintro e w7 ⟨rfl, b7⟩
        have hb7 := hb6.trans (b7.mono hs6)
        have st0 := run_str (P := Try.prog) w7 Try.underlying22 Try.underlying5 (k0.rd.ext hb7) (c := c0) rfl Try.underlying9
        have st1 := run_str (P := Try.prog) w7 Try.underlying22 Try.underlying5 (k1.rd.ext hb7) (c := c1) rfl Try.underlying9
        have st2 := run_str (P := Try.prog) w7 Try.underlying22 Try.underlying5 ((((o1.rd.ext b4).ext b5).ext b6).ext b7) (c := d1) rfl Try.underlying9
        have st3 := run_str (P := Try.prog) w7 Try.underlying22 Try.underlying5 (((o2.rd.ext b5).ext b6).ext b7) (c := d2) rfl Try.underlying9
        have st4 := run_str (P := Try.prog) w7 Try.underlying22 Try.underlying5 ((o3.rd.ext b6).ext b7) (c := d3) rfl Try.underlying9
        have st5 := run_str (P := Try.prog) w7 Try.underlying22 Try.underlying5 (o4.rd.ext b7) (c := d4) rfl Try.underlying9
        clear o1 o2 o3 o4 b3 b4 b5 b6 b7
        go_wp2
        go_ret
        exact ⟨rfl, hb7⟩
end Go.Proofs.Ytjfmendfhpgopaa
