/- Library functions that rewrite a row in place, as contracts. -/
import Derived.Test.YtaglhfgobkgnaaaDoorAM3
import Derived.Sort.OwnSorted
namespace Go.Proofs.YtaglhfgobkgnaaaDoor
set_option linter.all false
open Go.RowKit
open Go.Sort (Holds putRow grow putCells heap_grow_old)
section
variable {P : Program} {α : Type} [Inhabited α] (enc : α → Value) (av : α → AV) (dec : AV → α)
def putS (t : TypeId) (g : List α → List α) (ok : List α → Prop) : Spec := fun xs hp => match xs, hp with
  | [.own 0 v], [.row t' 1 v' bs] => some ⟨.tup [], [.row t' 1 v ((g (bs.map dec)).map av)], v = v' ∧ bs = (bs.map dec).map av ∧ ok (bs.map dec)⟩
  | _, _ => none
theorem holds_of_blk {w : World} {g : Nat} {cur : Array Value} {e : TypeId} {fr : Nat × Nat} {l : List α} (hb : w.heap[g]? = some (.cells cur e fr)) (hm : Mk fr cur.size) (ht : cur.toList.take l.length = l.map enc) : Holds enc w g 0 l.toArray := by
  intro j hj
  have hj' : j < l.length := by simpa using hj
  have h1 : (cur.toList.take l.length)[j]? = (l.map enc)[j]? := by rw [ht]
  rw [List.getElem?_take_of_lt hj'] at h1
  have hjc : j < cur.size := by
    rcases Nat.lt_or_ge j cur.size with h | h
    · exact h
    · rw [List.getElem?_eq_none (by simpa using h)] at h1; simp [hj'] at h1
  refine ⟨?_, ?_⟩
  · simp only [World.cell?, hb, Nat.zero_add]
    simp only [Option.isSome_none, Bool.false_eq_true, if_false]
    rw [← Array.getElem?_toList, h1]
    simp [hj']
  · have := hm.out j hjc
    obtain ⟨a, b⟩ := fr
    simp only [World.frozen?, hb, Nat.zero_add]
    simpa using this
theorem heap_put {w : World} {g n : Nat} {os : Array Obj} {cur : Array Value} {e : TypeId} {fr : Nat × Nat} (d : Array α) (hb : w.heap[g]? = some (.cells cur e fr)) :
    (grow (putRow enc (Go.Sort.ahead w n) g 0 d) os).heap[g]? = some (.cells (putCells enc 0 d cur) e fr) := by
  have hg : g < w.heap.size := (Array.getElem?_eq_some_iff.1 hb).1
  rw [heap_grow_old _ _ (by simpa using hg)]
  simp [putRow, Go.Sort.mapBlock, Go.Sort.ahead, Array.getElem?_modify, hb, Go.Sort.onCells]
theorem grownBy_put {w : World} {g n : Nat} {os : Array Obj} (d : Array α) : w.grownBy (grow (putRow enc (Go.Sort.ahead w n) g 0 d) os) (some g) := by
  refine ⟨rfl, rfl, rfl, by simp, fun k hk hne => ?_⟩
  rw [heap_grow_old _ _ (by simpa using hk)]
  have : g ≠ k := fun e => hne (by rw [e])
  simp [putRow, Go.Sort.mapBlock, Go.Sort.ahead, Array.getElem?_modify, this]
theorem take_put (cur : Array Value) (ts : List α) (h : ts.length ≤ cur.size) : (putCells enc 0 ts.toArray cur).toList.take ts.length = ts.map enc := by
  apply List.ext_getElem?
  intro j
  by_cases hj : j < ts.length
  · rw [List.getElem?_take_of_lt hj, Array.getElem?_toList]
    simp [putCells, hj, show j < cur.size by omega]
  · rw [List.getElem?_take_eq_none (by omega), List.getElem?_eq_none (by simp; omega)]
theorem fnok_put {f : FuncId} (t : TypeId) (g : List α → List α) (ok : List α → Prop) (hg : ∀ l, (g l).length = l.length)
    (hcs : ∀ (w : World) (S : Nat → Prop) (l : List α), Css w S rho0 (prs 1 (l.map av)) (l.map enc)) (hcs2 : ∀ (w : World) (S : Nat → Prop) (l : List α) (us : List Value), Css w S rho0 (prs 1 (l.map av)) us → us = l.map enc)
    (hc : ∀ (l : List α) (blk cap : Nat) (w : World), Holds enc w blk 0 l.toArray → ok l → l.length ≤ 9223372036854775807 → 0 < l.length → Calls P f #[.slice (some ⟨blk, 0, none⟩) l.length cap] w fun e w' => e = .returned (.tuple #[]) ∧ ∃ n os, w' = grow (putRow enc (Go.Sort.ahead w n) blk 0 (g l).toArray) os)
    (h0 : ∀ (A : Option Addr) (cap : Nat) (w : World), Calls P f #[.slice A 0 cap] w fun e w' => e = .returned (.tuple #[]) ∧ w' = w) : FnOk P f (putS av dec t g ok) := by
  intro as hp r hs hp' w S ρ args H ha
  unfold putS at hs
  split at hs
  · rename_i v t' v' bs
    injection hs with hs; subst hs
    obtain ⟨rfl, p1, p2⟩ := hp'
    generalize bs.map dec = l at *
    subst p1
    obtain ⟨x, vs, rfl, hx, hr⟩ := ha.get _ _ rfl
    obtain rfl := hr.none
    obtain ⟨L, us, k1, k2, k3, ⟨k4, k5⟩, k6, k7⟩ := H.ob 0 _ rfl
    obtain ⟨L', e1, rfl⟩ := hx.own
    rw [k1] at e1; injection e1 with e1; subst e1
    have hus := hcs2 _ _ _ _ k6
    subst hus
    rw [List.length_map] at k2
    have hbk : (AObj.row t' 1 v (l.map av)).blk ρ 0 = ablk L.A := by simp [AObj.blk, k1]
    have tup0 : ∀ (w : World) (S : Nat → Prop) (ρ : Rho), Vl w S ρ (.tup []) (.tuple #[]) := fun _ _ _ => ⟨[], rfl, rfl, fun i hi => by simp at hi⟩
    by_cases hl : l = []
    · subst hl
      have hg0 : g [] = [] := List.eq_nil_of_length_eq_zero (by rw [hg]; rfl)
      have hn0 : L.n = 0 := by simpa using k2
      rw [hn0]
      refine (h0 L.A L.c w).mono ?_
      rintro e w' ⟨rfl, rfl⟩
      refine ⟨_, S, ρ, rfl, tup0 _ _ _, ?_, Ext.refl _ _ _, fun b hb => .inl hb⟩
      simp only [hg0]
      exact H
    · have hpos : 0 < l.length := List.length_pos_iff.2 hl
      rcases k5 with ⟨_, k9, _⟩ | ⟨gb, cur, fr, m1, m2, m3, m4, m5, m6, m7⟩
      · omega
      · rw [k3, Nat.mul_one] at m6
        rw [k3, Nat.mul_one, k2] at m7
        rw [m1, k2]
        have hH := holds_of_blk enc m2 m3 m7
        refine (hc l gb L.c w hH p2 (by omega) hpos).mono ?_
        rintro e w' ⟨rfl, n, os, rfl⟩
        have hb2 := heap_put enc (n := n) (os := os) (g l).toArray m2
        have hgr : w.grownBy (grow (putRow enc (Go.Sort.ahead w n) gb 0 (g l).toArray) os) ((AObj.row t' 1 v (l.map av)).blk ρ 0) := by rw [hbk, m1]; exact grownBy_put enc _
        obtain ⟨H', hE⟩ := H.upd (w' := grow (putRow enc (Go.Sort.ahead w n) gb 0 (g l).toArray) os) (S' := S) (ρ' := ρ) (id := 0) (o := .row t' 1 v (l.map av)) (o' := .row t' 1 v ((g l).map av)) rfl hgr (fun _ h => h) (fun _ h => .inl h) (fun _ _ _ h => h) (fun _ _ _ => rfl)
          ⟨L, (g l).map enc, k1, by rw [List.length_map, hg]; exact k2, k3, ⟨by rw [List.length_map, hg, k3, k2, Nat.mul_one], .inr ⟨gb, _, fr, m1, hb2, by
            have : (putCells enc 0 (g l).toArray cur).size = cur.size := by simp [putCells]
            rw [this]; exact m3, m4, m5, by simp [putCells, k3, m6], by
            rw [k3, Nat.mul_one, k2, ← hg l]; exact take_put enc cur (g l) (by rw [hg]; omega)⟩⟩, hcs _ _ _, k7⟩ (fun u hu => H.vers 0 _ rfl u hu) (fun b hb => .inl hb)
        exact ⟨_, S, ρ, rfl, tup0 _ _ _, H', hE, fun b hb => .inl hb⟩
  · cases hs
end
end Go.Proofs.YtaglhfgobkgnaaaDoor
