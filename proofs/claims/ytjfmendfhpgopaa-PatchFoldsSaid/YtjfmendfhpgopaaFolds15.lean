/- 'PatchFolds' returns true and leaves what there was. -/
import Derived.Test.YtjfmendfhpgopaaMake15
import Derived.Test.YtjfmendfhpgopaaMakes15
import Derived.Test.YtjfmendfhpgopaaApplies15
namespace Go.Proofs.Ytjfmendfhpgopaa
set_option linter.all false
open Go.RowKit

set_option maxHeartbeats 1000000 in
set_option maxRecDepth 100000 in
theorem foldCut {A0 : Option Addr} {n0 c0 : Nat} {hs : List HRec} (w : World) (q0 : ArgH w A0 n0 c0 hs) :
    Calls Try.prog 14 #[.slice A0 n0 c0] w fun e w' => ∃ A c p, e = .returned (.slice A p.length c) ∧ p.length ≤ 3000 ∧ Own w' w.heap.size 5 A c p ∧ Below w.heap.size w w' := by
  have hn0 := q0.len
  subst hn0
  have hmax := q0.max
  have hcap2 := q0.cap
  go_enter Try.func14, Try.ntmps14
  go_wp2_with (at_builtin; refine stopAt ?_)
  go_loopw [3, 4] (fun m i wr => ∃ k : Nat, k ≤ hs.length ∧ k ≤ 20 ∧ i = .int .i64 k ∧ ∃ A' c', m = .slice A' k c' ∧ OwnR wr w.heap.size 26 3 A' k c' (hcells (trs k hs)) ∧ Below w.heap.size w wr)
    (fun _ i _ => hs.length - (intOf i).toNat)
  case atStart => exact ⟨0, Nat.zero_le _, Nat.zero_le _, rfl, none, 0, rfl, OwnR.nil _ _ _ _, Below.refl _ _⟩
  case round =>
    obtain ⟨k, hk, hk20, rfl, A', c', rfl, hown, hbel⟩ := hrel
    have hsz := hbel.size
    by_cases hgo : k < hs.length ∧ k < 20
    · obtain ⟨hlt, hlt20⟩ := hgo
      have hlt20' : (k : Int) < 20 := by omega
      have hrw := q0.rd.ext hbel
      obtain ⟨b, o, rfl, hblt, hc⟩ := hrw.at_ (by omega)
      obtain ⟨g0, g1, g2⟩ := hc k hlt
      have htr := hide (trs_succ k hs hlt)
      obtain ⟨hcp1, hcp2⟩ := q0.caps hs[k] (List.getElem_mem hlt)
      clear hc hrw
      have hxr := (q0.rd.2 hs[k] (List.getElem_mem hlt)).ext hbel
      generalize hs[k] = x at *
      have hnew := fun y : Nat => OwnR.new (size := 3) (base := w.heap.size) wr.drew 26 #[.int .i64 x.f, .int .i64 x.t, .slice x.A y x.c] 1 hsz rfl (by simp [maxLen])
      have hownd : OwnR wr.drew w.heap.size 26 3 A' k c' (hcells (trs k hs)) := hown
      have hbeld : Below w.heap.size w wr.drew := hbel.drew
      have hszd : w.heap.size ≤ wr.drew.heap.size := hsz
      have hstep : ∀ (y : Nat) A3 c3 w3, (x.b.take 100).length = y → OwnR w3 w.heap.size 26 3 A3 (k + 1) c3 (hcells (trs k hs) ++ [.int .i64 x.f, .int .i64 x.t, .slice x.A y x.c]) → OwnR w3 w.heap.size 26 3 A3 (k + 1) c3 (hcells (trs (k + 1) hs)) := by
        intro y A3 c3 w3 hy h
        have e : hcells (trs (k + 1) hs) = hcells (trs k hs) ++ [.int .i64 x.f, .int .i64 x.t, .slice x.A y x.c] := by
          rw [htr.out]; simp [hcells, HRec.cells, trH, ← hy]
        rw [e]; exact h
      have Hstep := hide hstep
      clear hstep
      obtain ⟨y, hy⟩ : ∃ y, (x.b.take 100).length = y := ⟨_, rfl⟩
      have hmin : (if (100 : Int) < (x.b.length : Int) then (100 : Int) else (x.b.length : Int)) = (y : Int) := by
        rw [List.length_take] at hy; split <;> omega
      have hyc : (y : Int) ≤ (x.c : Int) := by rw [List.length_take] at hy; omega
      have Hy := hide hy
      have Hnew := hide hnew
      have Hown := hide hownd
      have hown := 0
      clear hy hnew hownd hxr hown
      have hbb : b < w.heap.size := by
        obtain ⟨b2, o2, e2, h2, _⟩ := q0.rd.at_ (by omega)
        cases e2; exact h2
      have hcs : ∀ W : World, (∀ k : Nat, k < w.heap.size → W.heap[k]? = wr.heap[k]?) → ∀ j u, wr.cell? ⟨b, j, none⟩ = some u → W.cell? ⟨b, j, none⟩ = some u := fun W hW j u h => by
        rw [World.cell?_of_block (w := wr) (w' := W) (hW b hbb)]; exact h
      have Hcs := hide hcs
      clear hcs
      go_wp2_with (at_builtin; refine stopAt ?_)
      refine wp_region_L (fun W' => W'.cell? ⟨b, o + k * 3, none⟩ = some (.int .i64 x.f) ∧ W'.cell? ⟨b, o + k * 3 + 1, none⟩ = some (.int .i64 x.t) ∧ W'.cell? ⟨b, o + k * 3 + 2, none⟩ = some (.slice x.A x.b.length x.c)) (by kernel_rfl) ?_
      have hS0 : (fun W' => W'.cell? ⟨b, o + k * 3, none⟩ = some (.int .i64 x.f) ∧ W'.cell? ⟨b, o + k * 3 + 1, none⟩ = some (.int .i64 x.t) ∧ W'.cell? ⟨b, o + k * 3 + 2, none⟩ = some (.slice x.A x.b.length x.c)) wr.drew := ⟨g0, g1, g2⟩
      refine' wpAnyL_take (i := 0) (v := _) rfl (by kernel_rfl) (by kernel_rfl) (by kernel_rfl) (fun _ _ _ h => h) hS0 (Or.inl ⟨by rfl, ?_⟩) ?_
      rotate_left
      · (intro W0 hW0; (try dsimp only at hW0); go_split_ands; go_simp; (first | done | rfl))
      simp only [List.getElem_toArray, List.getElem_cons_succ, List.getElem_cons_zero, Act.put, List.setIfInBounds_toArray, List.set_cons_zero, List.set_cons_succ]
      refine' wpAnyL_take (i := 1) (v := _) rfl (by kernel_rfl) (by kernel_rfl) (by kernel_rfl) (fun _ _ _ h => h) hS0 (Or.inl ⟨by rfl, ?_⟩) ?_
      rotate_left
      · (intro W0 hW0; (try dsimp only at hW0); go_split_ands; go_simp; (first | done | rfl))
      simp only [List.getElem_toArray, List.getElem_cons_succ, List.getElem_cons_zero, Act.put, List.setIfInBounds_toArray, List.set_cons_zero, List.set_cons_succ]
      refine' wpAnyL_take (i := 2) (v := _) rfl (by kernel_rfl) (by kernel_rfl) (by kernel_rfl) (fun _ _ _ h => h) hS0 (Or.inl ⟨by rfl, ?_⟩) ?_
      rotate_left
      · (intro W0 hW0; (try dsimp only at hW0); go_split_ands; go_simp; (first | done | rfl))
      simp only [List.getElem_toArray, List.getElem_cons_succ, List.getElem_cons_zero, Act.put, List.setIfInBounds_toArray, List.set_cons_zero, List.set_cons_succ]
      refine' wpAnyL_take (i := 3) (v := _) rfl (by kernel_rfl) (by kernel_rfl) (by kernel_rfl) (fun _ _ _ h => h) hS0 (Or.inl ⟨by rfl, ?_⟩) ?_
      rotate_left
      · (intro W0 hW0; (try dsimp only at hW0); go_split_ands; go_simp; (first | done | rfl))
      simp only [List.getElem_toArray, List.getElem_cons_succ, List.getElem_cons_zero, Act.put, List.setIfInBounds_toArray, List.set_cons_zero, List.set_cons_succ]
      refine' wpAnyL_take (i := 4) (v := _) rfl (by kernel_rfl) (by kernel_rfl) (by kernel_rfl) (fun _ _ _ h => h) hS0 (Or.inl ⟨by rfl, ?_⟩) ?_
      rotate_left
      · (intro W0 hW0; (try dsimp only at hW0); go_split_ands; go_simp; (first | done | rfl))
      simp only [List.getElem_toArray, List.getElem_cons_succ, List.getElem_cons_zero, Act.put, List.setIfInBounds_toArray, List.set_cons_zero, List.set_cons_succ]
      refine' wpAnyL_take (i := 5) (v := _) rfl (by kernel_rfl) (by kernel_rfl) (by kernel_rfl) (fun _ _ _ h => h) hS0 (Or.inl ⟨by rfl, ?_⟩) ?_
      rotate_left
      · (intro W0 hW0; (try dsimp only at hW0); go_split_ands; go_simp; (first | done | rfl))
      simp only [List.getElem_toArray, List.getElem_cons_succ, List.getElem_cons_zero, Act.put, List.setIfInBounds_toArray, List.set_cons_zero, List.set_cons_succ]
      refine' wpAnyL_take (i := 6) (v := _) rfl (by kernel_rfl) (by kernel_rfl) (by kernel_rfl) (fun _ _ _ h => h) hS0 (Or.inl ⟨by rfl, ?_⟩) ?_
      rotate_left
      · (intro W0 hW0; (try dsimp only at hW0); go_split_ands; go_simp; (first | done | rfl))
      simp only [List.getElem_toArray, List.getElem_cons_succ, List.getElem_cons_zero, Act.put, List.setIfInBounds_toArray, List.set_cons_zero, List.set_cons_succ]
      refine' wpAnyL_take (i := 7) (v := _) rfl (by kernel_rfl) (by kernel_rfl) (by kernel_rfl) (fun _ _ _ h => h) hS0 (Or.inl ⟨by rfl, ?_⟩) ?_
      rotate_left
      · (intro W0 hW0; (try dsimp only at hW0); go_split_ands; go_simp; (first | done | rfl))
      simp only [List.getElem_toArray, List.getElem_cons_succ, List.getElem_cons_zero, Act.put, List.setIfInBounds_toArray, List.set_cons_zero, List.set_cons_succ]
      refine' wpAnyL_take (i := 8) (v := _) rfl (by kernel_rfl) (by kernel_rfl) (by kernel_rfl) (fun _ _ _ h => h) hS0 (Or.inl ⟨by rfl, ?_⟩) ?_
      rotate_left
      · (intro W0 hW0; (try dsimp only at hW0); go_split_ands; go_simp; (first | done | rfl))
      simp only [List.getElem_toArray, List.getElem_cons_succ, List.getElem_cons_zero, Act.put, List.setIfInBounds_toArray, List.set_cons_zero, List.set_cons_succ]
      refine' wpAnyL_take (i := 9) (v := _) rfl (by kernel_rfl) (by kernel_rfl) (by kernel_rfl) (fun _ _ _ h => h) hS0 (Or.inl ⟨by rfl, ?_⟩) ?_
      rotate_left
      · (intro W0 hW0; (try dsimp only at hW0); go_split_ands; go_simp; (first | done | rfl))
      simp only [List.getElem_toArray, List.getElem_cons_succ, List.getElem_cons_zero, Act.put, List.setIfInBounds_toArray, List.set_cons_zero, List.set_cons_succ]
      refine' wpAnyL_take (i := 10) (v := _) rfl (by kernel_rfl) (by kernel_rfl) (by kernel_rfl) (fun _ _ _ h => h) hS0 (Or.inl ⟨by rfl, ?_⟩) ?_
      rotate_left
      · (intro W0 hW0; (try dsimp only at hW0); go_split_ands; go_simp; (first | done | rfl))
      simp only [List.getElem_toArray, List.getElem_cons_succ, List.getElem_cons_zero, Act.put, List.setIfInBounds_toArray, List.set_cons_zero, List.set_cons_succ]
      refine' wpAnyL_take (i := 11) (v := _) rfl (by kernel_rfl) (by kernel_rfl) (by kernel_rfl) (fun _ _ _ h => h) hS0 (Or.inl ⟨by rfl, ?_⟩) ?_
      rotate_left
      · (intro W0 hW0; (try dsimp only at hW0); go_split_ands; go_simp; (first | done | rfl))
      simp only [List.getElem_toArray, List.getElem_cons_succ, List.getElem_cons_zero, Act.put, List.setIfInBounds_toArray, List.set_cons_zero, List.set_cons_succ]
      refine' wpAnyL_take (i := 12) (v := _) rfl (by kernel_rfl) (by kernel_rfl) (by kernel_rfl) (fun _ _ _ h => h) hS0 (Or.inl ⟨by rfl, ?_⟩) ?_
      rotate_left
      · (intro W0 hW0; (try dsimp only at hW0); go_split_ands; go_simp; (first | done | rfl))
      simp only [List.getElem_toArray, List.getElem_cons_succ, List.getElem_cons_zero, Act.put, List.setIfInBounds_toArray, List.set_cons_zero, List.set_cons_succ]
      refine' wpAnyL_take (i := 13) (v := _) rfl (by kernel_rfl) (by kernel_rfl) (by kernel_rfl) (fun _ _ _ h => h) hS0 (Or.inl ⟨by rfl, ?_⟩) ?_
      rotate_left
      · (intro W0 hW0; (try dsimp only at hW0); go_split_ands; go_simp; (first | done | rfl))
      simp only [List.getElem_toArray, List.getElem_cons_succ, List.getElem_cons_zero, Act.put, List.setIfInBounds_toArray, List.set_cons_zero, List.set_cons_succ]
      refine' wpAnyL_take (i := 14) (v := _) rfl (by kernel_rfl) (by kernel_rfl) (by kernel_rfl) (fun _ _ _ h => h) hS0 (Or.inl ⟨by rfl, ?_⟩) ?_
      rotate_left
      · (intro W0 hW0; (try dsimp only at hW0); go_split_ands; go_simp; (first | done | rfl))
      simp only [List.getElem_toArray, List.getElem_cons_succ, List.getElem_cons_zero, Act.put, List.setIfInBounds_toArray, List.set_cons_zero, List.set_cons_succ]
      refine' wpAnyL_take (i := 15) (v := _) rfl (by kernel_rfl) (by kernel_rfl) (by kernel_rfl) (fun _ _ _ h => h) hS0 (Or.inl ⟨by rfl, ?_⟩) ?_
      rotate_left
      · (intro W0 hW0; (try dsimp only at hW0); go_split_ands; go_simp; (first | done | rfl))
      simp only [List.getElem_toArray, List.getElem_cons_succ, List.getElem_cons_zero, Act.put, List.setIfInBounds_toArray, List.set_cons_zero, List.set_cons_succ]
      refine' wpAnyL_take (i := 16) (v := _) rfl (by kernel_rfl) (by kernel_rfl) (by kernel_rfl) (fun _ _ _ h => h) hS0 (Or.inl ⟨by rfl, ?_⟩) ?_
      rotate_left
      · (intro W0 hW0; (try dsimp only at hW0); go_split_ands; go_simp; (first | done | rfl))
      simp only [List.getElem_toArray, List.getElem_cons_succ, List.getElem_cons_zero, Act.put, List.setIfInBounds_toArray, List.set_cons_zero, List.set_cons_succ]
      refine' wpAnyL_take (i := 17) (v := _) rfl (by kernel_rfl) (by kernel_rfl) (by kernel_rfl) (fun _ _ _ h => h) hS0 (Or.inl ⟨by rfl, ?_⟩) ?_
      rotate_left
      · (intro W0 hW0; (try dsimp only at hW0); go_split_ands; go_simp; (first | done | rfl))
      simp only [List.getElem_toArray, List.getElem_cons_succ, List.getElem_cons_zero, Act.put, List.setIfInBounds_toArray, List.set_cons_zero, List.set_cons_succ]
      refine' wpAnyL_take (i := 18) (v := _) rfl (by kernel_rfl) (by kernel_rfl) (by kernel_rfl) (fun _ _ _ h => h) hS0 (Or.inl ⟨by rfl, ?_⟩) ?_
      rotate_left
      · (intro W0 hW0; (try dsimp only at hW0); go_split_ands; go_simp; (first | done | rfl))
      simp only [List.getElem_toArray, List.getElem_cons_succ, List.getElem_cons_zero, Act.put, List.setIfInBounds_toArray, List.set_cons_zero, List.set_cons_succ]
      refine' wpAnyL_take (i := 19) (v := _) rfl (by kernel_rfl) (by kernel_rfl) (by kernel_rfl) (fun _ _ _ h => h) hS0 (Or.inl ⟨by rfl, ?_⟩) ?_
      rotate_left
      · (intro W0 hW0; (try dsimp only at hW0); go_split_ands; go_simp; (first | done | rfl))
      simp only [List.getElem_toArray, List.getElem_cons_succ, List.getElem_cons_zero, Act.put, List.setIfInBounds_toArray, List.set_cons_zero, List.set_cons_succ]
      refine' wpAnyL_take (i := 20) (v := _) rfl (by kernel_rfl) (by kernel_rfl) (by kernel_rfl) (fun _ _ _ h => h) hS0 (Or.inl ⟨by rfl, ?_⟩) ?_
      rotate_left
      · (intro W0 hW0; (try dsimp only at hW0); go_split_ands; go_simp; (first | done | rfl))
      simp only [List.getElem_toArray, List.getElem_cons_succ, List.getElem_cons_zero, Act.put, List.setIfInBounds_toArray, List.set_cons_zero, List.set_cons_succ]
      refine' wpAnyL_take (i := 21) (v := _) rfl (by kernel_rfl) (by kernel_rfl) (by kernel_rfl) (fun _ _ _ h => h) hS0 (Or.inl ⟨by rfl, ?_⟩) ?_
      rotate_left
      · (intro W0 hW0; (try dsimp only at hW0); go_split_ands; go_simp; (first | done | rfl))
      simp only [List.getElem_toArray, List.getElem_cons_succ, List.getElem_cons_zero, Act.put, List.setIfInBounds_toArray, List.set_cons_zero, List.set_cons_succ]
      refine' wpAnyL_take (i := 22) (v := _) rfl (by kernel_rfl) (by kernel_rfl) (by kernel_rfl) (fun _ _ _ h => h) hS0 (Or.inl ⟨by rfl, ?_⟩) ?_
      rotate_left
      · (intro W0 hW0; (try dsimp only at hW0); go_split_ands; go_simp; (first | done | rfl))
      simp only [List.getElem_toArray, List.getElem_cons_succ, List.getElem_cons_zero, Act.put, List.setIfInBounds_toArray, List.set_cons_zero, List.set_cons_succ]
      refine' wpAnyL_take (i := 23) (v := _) rfl (by kernel_rfl) (by kernel_rfl) (by kernel_rfl) (fun _ _ _ h => h) hS0 (Or.inl ⟨by rfl, ?_⟩) ?_
      rotate_left
      · (intro W0 hW0; (try dsimp only at hW0); go_split_ands; go_simp; (first | done | rfl))
      simp only [List.getElem_toArray, List.getElem_cons_succ, List.getElem_cons_zero, Act.put, List.setIfInBounds_toArray, List.set_cons_zero, List.set_cons_succ]
      refine' wpAnyL_take (i := 24) (v := _) rfl (by kernel_rfl) (by kernel_rfl) (by kernel_rfl) (fun _ _ _ h => h) hS0 (Or.inl ⟨by rfl, ?_⟩) ?_
      rotate_left
      · (intro W0 hW0; (try dsimp only at hW0); go_split_ands; go_simp; (first | done | rfl))
      simp only [List.getElem_toArray, List.getElem_cons_succ, List.getElem_cons_zero, Act.put, List.setIfInBounds_toArray, List.set_cons_zero, List.set_cons_succ]
      refine wpAnyL_one (i := 25) rfl (by kernel_rfl) (fun K hK' => ?_)
      simp only [List.getElem_toArray, List.getElem_cons_succ, List.getElem_cons_zero]
      rw [if_pos (by rfl)]
      go_simp
      refine hK' _ _ ⟨Hcs.out _ (fun k hk => Below.heap_alloc wr _ k (by omega)) _ _ g0, Hcs.out _ (fun k hk => Below.heap_alloc wr _ k (by omega)) _ _ g1, Hcs.out _ (fun k hk => Below.heap_alloc wr _ k (by omega)) _ _ g2⟩ ?_
      clear hK' hS0
      try simp only [Act.put, List.setIfInBounds_toArray, List.set_cons_zero, List.set_cons_succ]
      refine wpAnyL_one (i := 26) rfl (by kernel_rfl) (fun K hK' => ?_)
      simp only [List.getElem_toArray, List.getElem_cons_succ, List.getElem_cons_zero]
      rw [if_pos (by rfl)]
      refine wp_appR _ (.tmp 15) (.tmp 40) rowH rfl (A := A') (n := k) (c := c') (A2 := some ⟨wr.heap.size, 0, none⟩) (m := 1) (c2 := 1) ?e1 ?e2 (Hown.out.alloc _) (Hnew.out y).rd rfl (by omega) (by simp [Value.oneCell']) (by omega) (by omega) (by simp; omega) ?_
      case e1 => rfl
      case e2 => rfl
      intro A3 c3 w3 hown3 hg3 _
      have hbel3 := (Hown.out.alloc (.cells #[.int .i64 x.f, .int .i64 x.t, .slice x.A y x.c] 26)).below (hbeld.alloc hszd _) (by simp; omega) (Nat.le_refl _) hg3
      have hown4 := Hstep.out y A3 c3 w3 Hy.out hown3
      clear hown3 hg3
      have hk3 : ∀ k : Nat, k < w.heap.size → w3.heap[k]? = wr.heap[k]? := fun k hk => (hbel3.block k hk).trans (hbel.block k hk).symm
      refine hK' _ _ ⟨Hcs.out _ hk3 _ _ g0, Hcs.out _ hk3 _ _ g1, Hcs.out _ hk3 _ _ g2⟩ ?_
      clear hK' K
      simp only [Act.put, List.setIfInBounds_toArray, List.set_cons_zero, List.set_cons_succ]
      refine wpAnyL_last (i := 27) rfl (by kernel_rfl) (by kernel_rfl) (by kernel_rfl) (fun K hK => ?_)
      simp only [List.getElem_toArray, List.getElem_cons_succ, List.getElem_cons_zero]
      go_simp
      refine hK _ _ (NoPanic.normal ?_)
      clear hK K
      go_wp2
      go_roundw
      case rel => exact ⟨k + 1, by omega, by omega, by go_num, A3, c3, rfl, hown4, hbel3⟩
      case measure => simp [intOf]; omega
    · have htl := trs_len k hs hk
      have hbl := bodyLen_trs k hs
      have hrdm : RdH wr A' (trs k hs) := ⟨hown.rd, trs_rd q0.rd hbel k⟩
      generalize trs k hs = ms at *
      have hprl : (printB ms).length ≤ 3000 := by rw [printB_len]; omega
      have hpr := refPrint A' k c' ms wr htl.symm hrdm (by omega) (by omega)
      generalize printB ms = pp at *
      have Hpr := hide hpr
      clear hpr htl hbl hown hrdm
      have hcase : hs.length ≤ k ∨ (k < hs.length ∧ 20 ≤ k) := by omega
      clear hgo
      rcases hcase with hge | ⟨hlt, hge⟩
      · have hgei : (hs.length : Int) ≤ (k : Int) := by omega
        go_wp2_with (at_builtin; refine stopAt ?_)
        refine Hpr.out.mono ?_
        rintro e w1 ⟨Ap, cp, rfl, hop, hbp⟩
        have hb1 := hbel.trans (hbp.mono hsz)
        have ho := hide (hop.mono hsz)
        clear hop hbp Hpr
        go_wp2
        go_ret
        exact ⟨Ap, cp, pp, rfl, hprl, ho.out, hb1⟩
      · have hgei : (20 : Int) ≤ (k : Int) := by omega
        have hlti : (k : Int) < (hs.length : Int) := by omega
        go_wp2_with (at_builtin; refine stopAt ?_)
        refine Hpr.out.mono ?_
        rintro e w1 ⟨Ap, cp, rfl, hop, hbp⟩
        have hb1 := hbel.trans (hbp.mono hsz)
        have ho := hide (hop.mono hsz)
        clear hop hbp Hpr
        go_wp2
        go_ret
        exact ⟨Ap, cp, pp, rfl, hprl, ho.out, hb1⟩

theorem applyRes_most (base p : List UInt8) (m n : Int) (h1 : (base.length : Int) + p.length ≤ m) (h2 : (base.length : Int) + p.length ≤ n) : applyRes base p m = applyRes base p n := by
  cases hg : applyGo base (parse p.length p) 0 [] with
  | error e => unfold applyRes; rw [hg]
  | ok x =>
    have h3 := applyGo_len base _ _ _ x (Nat.zero_le _) hg
    have h4 := sumB_parse p.length p
    simp at h3
    rw [applyRes_of hg (by omega), applyRes_of hg (by omega)]

/-- What 'Fold' answers, by what the first and the second patch come to. -/
def FR (base : List UInt8) (R T : List UInt8 × Nat) (r : List UInt8) (err : Nat) : Prop :=
  (0 < R.2 ∧ r = [] ∧ err = R.2) ∨ (R.2 = 0 ∧ 0 < T.2 ∧ r = [] ∧ err = T.2) ∨ (R.2 = 0 ∧ T.2 = 0 ∧ err = 0 ∧ Made base T.1 r ∧ r.length ≤ 12 + T.1.length)
def FoldRes (base p q : List UInt8) (r : List UInt8) (err : Nat) : Prop := FR base (applyRes base p 1099511627776) (applyRes (applyRes base p 1099511627776).1 q 1099511627776) r err

set_option maxHeartbeats 1000000 in
theorem patchFold (A0 A1 A2 : Option Addr) (n0 n1 n2 c0 c1 c2 : Nat) (p q base : List UInt8) (w : World) (hn0 : n0 = p.length) (hn1 : n1 = q.length) (hn2 : n2 = base.length) (h0 : Rd w A0 p) (h1 : Rd w A1 q) (h2 : Rd w A2 base)
    (hc0 : p.length ≤ c0) (hm0 : c0 ≤ 9223372036854775807) (hc1 : q.length ≤ c1) (hm1 : c1 ≤ 9223372036854775807) (hc2 : base.length ≤ c2) (hp : p.length ≤ 3000) (hq : q.length ≤ 3000) (hb : base.length ≤ 1000)
    (hA0 : ∀ k, ablk A0 = some k → k < w.heap.size) (hA1 : ∀ k, ablk A1 = some k → k < w.heap.size) :
    Calls Try.prog 15 #[.slice A0 n0 c0, .slice A1 n1 c1, .slice A2 n2 c2] w fun e w' => ∃ A c r err, e = .returned (.tuple #[.slice A r.length c, .int .i64 ((err : Nat) : Int)]) ∧ FoldRes base p q r err ∧ Own w' w.heap.size 5 A c r ∧ Below w.heap.size w w' := by
  subst hn0 hn1 hn2
  have hr1 := patchApply A2 A0 _ _ c2 c0 9223372036854775807 base p w rfl rfl h2 h0 hc2 hc0 hm0 (by omega) hA0
  rw [applyRes_most base p 9223372036854775807 1099511627776 (by omega) (by omega)] at hr1
  have hl1 : (applyRes base p 1099511627776).1.length ≤ 4000 := Nat.le_trans applyRes_len (by omega)
  have hR2 := fun (A : Option Addr) (c : Nat) (W : World) (hd : Rd W A (applyRes base p 1099511627776).1) (hc : (applyRes base p 1099511627776).1.length ≤ c) (hB : Below w.heap.size w W) => patchApply A A1 _ _ c c1 9223372036854775807 (applyRes base p 1099511627776).1 q W rfl rfl hd (h1.ext hB) hc hc1 hm1 (by omega) (fun k hk => Nat.lt_of_lt_of_le (hA1 k hk) hB.size)
  rw [applyRes_most (applyRes base p 1099511627776).1 q 9223372036854775807 1099511627776 (by omega) (by omega)] at hR2
  have hl2 : (applyRes (applyRes base p 1099511627776).1 q 1099511627776).1.length ≤ 7000 := Nat.le_trans applyRes_len (by omega)
  unfold FoldRes
  generalize hx : applyRes base p 1099511627776 = R at *
  generalize hy : applyRes R.1 q 1099511627776 = T at *
  clear hx hy
  have H1 := hide hr1
  have H2 := hide hR2
  clear hr1 hR2
  rcases Nat.eq_zero_or_pos R.2 with z | z
  · obtain ⟨R1, Rz⟩ := R
    simp only at z hl1 H1 H2 hl2
    subst z
    rcases Nat.eq_zero_or_pos T.2 with y | y
    · obtain ⟨T1, Tz⟩ := T
      simp only at y hl2 H2
      subst y
      go_enter Try.func15, Try.ntmps15
      go_wp2_with (at_builtin; refine stopAt ?_)
      refine H1.out.mono ?_
      rintro e w1 ⟨Aa, ca, rfl, o1, b1⟩
      have hS := (Sep.start w).call b1 (x := .row 5 Aa ca R1) o1
      simp only [List.cons_append, List.nil_append, List.set_cons_zero, List.set_cons_succ, List.map_cons, List.map_nil, List.getD_cons_zero, List.getD_cons_succ, Array.toList] at hS
      clear o1 b1
      go_wp2_with (at_builtin; refine stopAt ?_)
      refine (H2.out Aa ca _ (hS.rd 0 rfl) (hS.own 0 rfl).cap hS.below).mono ?_
      rintro e w2 ⟨Ab, cb, rfl, o2, b2⟩
      replace hS := hS.call b2 (x := .row 5 Ab cb T1) o2
      simp only [List.cons_append, List.nil_append, List.set_cons_zero, List.set_cons_succ, List.map_cons, List.map_nil, List.getD_cons_zero, List.getD_cons_succ, Array.toList] at hS
      clear o2 b2
      go_wp2_with (at_builtin; refine stopAt ?_)
      refine (patchMake A2 Ab _ _ c2 cb base T1 _ rfl rfl (h2.ext hS.below) (hS.rd 1 rfl) (hS.own 1 rfl).cap (hS.own 1 rfl).cmax (by omega) (by omega)).mono ?_
      rintro e w3 ⟨Ac, cc, r, rfl, hM, hrl, o3, b3⟩
      have ho := hide (o3.mono hS.size)
      have hbel := (hS.ext b3).below
      have HM := hide hM
      have hfin := hide (show FR base (R1, 0) (T1, 0) r 0 from .inr (.inr ⟨rfl, rfl, rfl, hM, hrl⟩))
      clear hS o3 b3 hM
      go_wp2
      go_ret2
      exact ⟨Ac, cc, r, 0, rfl, hfin.out, ho.out, hbel⟩
    · have hne : ((T.2 : Int) != 0) = true := by rw [bne_iff_ne]; omega
      go_enter Try.func15, Try.ntmps15
      go_wp2_with (at_builtin; refine stopAt ?_)
      refine H1.out.mono ?_
      rintro e w1 ⟨Aa, ca, rfl, o1, b1⟩
      have hS := (Sep.start w).call b1 (x := .row 5 Aa ca R1) o1
      simp only [List.cons_append, List.nil_append, List.set_cons_zero, List.set_cons_succ, List.map_cons, List.map_nil, List.getD_cons_zero, List.getD_cons_succ, Array.toList] at hS
      clear o1 b1
      go_wp2_with (at_builtin; refine stopAt ?_)
      refine (H2.out Aa ca _ (hS.rd 0 rfl) (hS.own 0 rfl).cap hS.below).mono ?_
      rintro e w2 ⟨Ab, cb, rfl, o2, b2⟩
      have hbel := (hS.ext b2).below
      have hfin := hide (show FR base (R1, 0) T [] T.2 from .inr (.inl ⟨rfl, y, rfl, rfl⟩))
      clear hS o2 b2
      go_wp2
      go_ret2
      exact ⟨none, 0, [], T.2, rfl, hfin.out, Own.nil _ _ _, hbel⟩
  · have hne : ((R.2 : Int) != 0) = true := by rw [bne_iff_ne]; omega
    go_enter Try.func15, Try.ntmps15
    go_wp2_with (at_builtin; refine stopAt ?_)
    refine H1.out.mono ?_
    rintro e w1 ⟨Aa, ca, rfl, o1, b1⟩
    have hfin := hide (show FR base R T [] R.2 from .inl ⟨z, rfl, rfl⟩)
    clear o1
    go_wp2
    go_ret2
    exact ⟨none, 0, [], R.2, rfl, hfin.out, Own.nil _ _ _, b1⟩
end Go.Proofs.Ytjfmendfhpgopaa
