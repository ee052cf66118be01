/- Storing cells, appending to a row of the call's own: in the model. Over any program; no condition. -/
import Derived.Test.YtbefhofmbiedgaaA10
import Derived.Laws.IdiomStrings
import Derived.Laws.MakeOwn
namespace Go.Proofs.Ytbefhofmbiedgaa
set_option linter.all false
open Go.RowKit

section
variable {P : Program} {w : World}

theorem heap_setCell_row (w : World) (g i : Nat) (cs : Array Value) (t : TypeId) (fr : Nat × Nat) (v : Value) (hg : w.heap[g]? = some (.cells cs t fr)) :
    (w.setCell ⟨g, i, none⟩ v).heap[g]? = some (.cells (cs.setIfInBounds i v) t fr) := by
  simp [World.setCell, Array.getElem?_modify, hg]
theorem grown_setCell (w : World) (g i : Nat) (v : Value) : w.grownBy (w.setCell ⟨g, i, none⟩ v) (some g) := only_set (World.grownBy.refl w _) (.inl rfl) v
theorem setCells_row (g : Nat) (t : TypeId) (fr : Nat × Nat) : ∀ (vs : List Value) (o : Nat) (w : World) (cs : Array Value), w.heap[g]? = some (.cells cs t fr) → o + vs.length ≤ cs.size →
    (w.setCells g o vs).heap[g]? = some (.cells (cs.toList.take o ++ vs ++ cs.toList.drop (o + vs.length)).toArray t fr) ∧ w.grownBy (w.setCells g o vs) (some g) := by
  intro vs
  induction vs with
  | nil => intro o w cs hg _; exact ⟨by simpa [World.setCells] using hg, World.grownBy.refl w _⟩
  | cons v vs ih =>
    intro o w cs hg hl
    simp only [List.length_cons] at hl
    obtain ⟨h1, h2⟩ := ih (o + 1) _ _ (heap_setCell_row w g o cs t fr v hg) (by simp; omega)
    refine ⟨?_, (grown_setCell w g o v).trans h2⟩
    rw [World.setCells, h1]
    have := list_seg_step cs.toList o v vs (by simp; omega)
    simp only [Array.toList_setIfInBounds, List.length_cons, this]
theorem frozen_row (w : World) (g j : Nat) (cs : Array Value) (t : TypeId) (fr : Nat × Nat) (hg : w.heap[g]? = some (.cells cs t fr)) (h : ¬ (fr.1 ≤ j ∧ j < fr.2)) : w.frozen? ⟨g, j, none⟩ = false := by
  simp only [World.frozen?, hg]
  rw [Bool.eq_false_iff]
  intro hh
  simp at hh
  exact h hh
theorem run_storeCells_row (g o : Nat) (t : TypeId) (fr : Nat × Nat) (vs : List Value) (cs : Array Value) (hg : w.heap[g]? = some (.cells cs t fr)) (hl : o + vs.length ≤ cs.size) (hf : ∀ j, j < cs.size → ¬ (fr.1 ≤ j ∧ j < fr.2)) (h1 : ∀ v ∈ vs, v.oneCell' = true) :
    (storeCells ⟨g, o, none⟩ vs 0).run P w = .ok () (w.setCells g o vs) := by
  have := run_storeCells_cells (P := P) g o vs 0 w (fun j hj => by
    rw [cell_of_row w g _ cs t fr hg, Array.getElem?_eq_getElem (by omega)]; rfl) (fun j hj => frozen_row w g _ cs t fr hg (hf _ (by omega))) h1
  simpa using this

/-- An append to a row of the call's own. -/
theorem run_append_rw {t ty e : TypeId} {i : TypeInfo} {z : Value} (ht : P.underlying t = some (.slice e)) (hi : P.info? e = some i) (hz : i.zero = some z) (hzs : z.cells.size = i.size)
    {L : Lc} {us : List Value} (hL : L.sz = i.size) (hr : Rw w e L us) {A2 : Option Addr} {m c2 : Nat} {vs : List Value} (hv : vs.length = m * i.size) (hone : ∀ u ∈ vs, u.oneCell' = true)
    (hcell : 0 < vs.length → ∃ b o, A2 = some ⟨b, o, none⟩ ∧ ∀ j, j < vs.length → w.cell? ⟨b, o + j, none⟩ = vs[j]?) (hpos : 0 < i.size) (hmax : L.n + m ≤ 9223372036854775807) (hbytes : (L.n + m) * i.bytes ≤ 140737488355328) :
    ∃ (L' : Lc) (w' : World), (Builtin.append_ #[t, t] ty #[.slice L.A L.n L.c, .slice A2 m c2]).run P w = .ok (.slice L'.A L'.n L'.c) w' ∧ Rw w' e L' (us ++ vs) ∧ L'.n = L.n + m ∧ L'.sz = i.size ∧ w.grownBy w' (ablk L.A) ∧ (ablk L'.A = ablk L.A ∨ ablk L'.A = some w.heap.size) := by
  obtain ⟨hul, hr⟩ := hr
  rcases Nat.eq_zero_or_pos m with h0 | h0
  · subst h0
    have : vs = [] := List.eq_nil_of_length_eq_zero (by simpa using hv)
    subst this
    refine ⟨L, w, ?_, ⟨by simpa using hul, by simpa using hr⟩, rfl, hL, World.grownBy.refl w _, .inl rfl⟩
    have hn : L.n ≤ L.c := by
      rcases hr with ⟨_, h2, h3⟩ | ⟨_, _, _, _, _, _, h, _⟩
      · omega
      · exact h
    cases hA : L.A <;> cases A2 <;> simp [Builtin.append_, run_underlying ht, sizeOf, typeInfo, hi, Builtin.lenOf, Builtin.firstCells, loadCells, loadCellsFrom, hn, storeCells]
  · have hvpos : 0 < vs.length := by rw [hv]; exact Nat.mul_pos h0 hpos
    obtain ⟨b, o, rfl, hc⟩ := hcell hvpos
    have hnews : ∀ j v, vs[j]? = some v → w.cell? ((⟨b, o, none⟩ : Addr).add j) = some v := by
      intro j v hj
      rw [add_spot, hc j (List.getElem?_eq_some_iff.1 hj).1, hj]
    have hlen : (us ++ vs).length = (L.n + m) * i.size := by rw [List.length_append, hul, hv, hL, Nat.add_mul]
    have grown : ∀ (old : Nat), old < L.n + m →
        Rw (w.drew.alloc (.cells (us.toArray ++ vs.toArray ++ Builtin.zeroCells z.cells (grownCap w (L.n + m) old e - (L.n + m))) e)) e ⟨some ⟨w.heap.size, 0, none⟩, grownCap w (L.n + m) old e, L.n + m, i.size⟩ (us ++ vs) := by
      intro old ho
      have hge := grownCap_ge w (L.n + m) old e
      have hcm : grownCap w (L.n + m) old e ≤ 9223372036854775807 := by
        have := grownCap_le_maxLen w (L.n + m) old e (by simp only [maxLen]; omega)
        simp only [maxLen] at this; omega
      refine ⟨hlen, .inr ⟨w.heap.size, _, (0, 0), rfl, heap_alloc_new w.drew _, .inl rfl, hge, hcm, ?_, ?_⟩⟩
      · have e1 : us.length + vs.length = (L.n + m) * i.size := by rw [← List.length_append, hlen]
        simp only [Array.size_append, List.size_toArray, size_zeroCells, hzs]
        rw [e1, ← Nat.add_mul]
        congr 1
        show L.n + m + (grownCap w (L.n + m) old e - (L.n + m)) = grownCap w (L.n + m) old e
        omega
      · simp only [Array.toList_append, List.append_assoc]
        rw [← List.append_assoc, ← hlen]
        exact List.take_left
    have gnew : ∀ (X : Array Value) (row : Option Nat), w.grownBy (w.drew.alloc (.cells X e)) row := fun X row => ⟨rfl, rfl, rfl, by simp, fun k hk _ => Below.heap_alloc w.drew _ k hk⟩
    rcases hr with ⟨k1, k2, k3⟩ | ⟨g, cur, fr, k1, k2, k3, k4, k5, k6, k7⟩
    · have hus : us = [] := List.eq_nil_of_length_eq_zero (by rw [hul, k2, Nat.zero_mul])
      subst hus
      have hrun := run_append_nil (P := P) w t ty e i z ht hi hz ⟨b, o, none⟩ m c2 vs hv hnews h0 (by omega) (by rw [k2] at hbytes; simp only [Nat.zero_add] at hbytes; omega)
      have hg := grown 0 (by omega)
      rw [k2] at hg
      simp only [Nat.zero_add, List.nil_append, Array.empty_append] at hg
      refine ⟨⟨some ⟨w.heap.size, 0, none⟩, grownCap w m 0 e, m, i.size⟩, w.drew.alloc (.cells (vs.toArray ++ Builtin.zeroCells z.cells (grownCap w m 0 e - m)) e), ?_, ?_, by simp only; omega, rfl, gnew _ _, .inr rfl⟩
      · rw [k1, k2, k3]; exact hrun
      · rw [List.nil_append]; exact hg
    · by_cases hroom : L.n + m ≤ L.c
      · have hfit : L.n * i.size + vs.length ≤ cur.size := by rw [hv, k6, hL, ← Nat.add_mul]; exact Nat.mul_le_mul_right _ hroom
        have hst := run_storeCells_row (P := P) (w := w) g (L.n * i.size) e fr vs cur k2 hfit k3.out hone
        obtain ⟨s1, s2⟩ := setCells_row g e fr vs (L.n * i.size) w cur k2 hfit
        refine ⟨⟨some ⟨g, 0, none⟩, L.c, L.n + m, i.size⟩, w.setCells g (L.n * i.size) vs, ?_, ⟨hlen, .inr ⟨g, _, fr, rfl, s1, ?_, hroom, k5, ?_, ?_⟩⟩, rfl, rfl, by rw [k1]; exact s2, .inl (by rw [k1])⟩
        · have hf := run_firstCells_some (P := P) w i.size m ⟨b, o, none⟩ m c2 vs hv hnews
          rw [k1]
          simp [Builtin.append_, run_underlying ht, sizeOf, typeInfo, hi, Builtin.lenOf, hroom, hf, Addr.add_lit, hst]
        · refine k3.imp id fun h => ?_
          simp; omega
        · simp only [List.size_toArray, List.length_append, List.length_take, List.length_drop, Array.length_toList]
          rw [hL] at k6
          omega
        · rw [hL] at k7
          rw [k7, ← hlen]
          exact List.take_left
      · have holds : ∀ j u, us[j]? = some u → w.cell? ((⟨g, 0, none⟩ : Addr).add j) = some u := by
          intro j u hj
          have hjl := (List.getElem?_eq_some_iff.1 hj).1
          rw [add_spot, Nat.zero_add, cell_of_row w g j cur e fr k2]
          rw [← k7, List.getElem?_take] at hj
          split at hj
          · simpa using hj
          · cases hj
        have hrun := run_append_grow (P := P) w t ty e i z ht hi hz ⟨g, 0, none⟩ L.n L.c us (by rw [hul, hL]) holds ⟨b, o, none⟩ m c2 vs hv hnews (by omega) (by omega) (growslice_fits (by omega) hbytes)
        exact ⟨⟨some ⟨w.heap.size, 0, none⟩, grownCap w (L.n + m) L.c e, L.n + m, i.size⟩, _, by rw [k1]; exact hrun, grown L.c (by omega), rfl, rfl, gnew _ _, .inr rfl⟩
end
end Go.Proofs.Ytbefhofmbiedgaa
