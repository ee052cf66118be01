/- What 'slices.Concat' of rows of bytes computes: one row of the call's own. No condition but that all fits. -/
import Derived.Test.YtjdlngbobnknmaaDoorProg
import Derived.Test.YtjdlngbobnknmaaDoorSep
import Derived.Lib.AppendZeros
namespace Go.Proofs.YtjdlngbobnknmaaDoor
set_option linter.all false
open Go.RowKit

theorem bytC : Byt Tryd.prog 22 5 := ⟨Tryd.underlying22, by kernel_rfl⟩

/-- A row of bytes as an element of a slice. -/
structure BRec where
  A : Option Addr
  c : Nat
  b : List UInt8
def BRec.cell (x : BRec) : Value := .slice x.A x.b.length x.c
def flatR (xs : List BRec) : List UInt8 := (xs.map (·.b)).flatten
/-- A slice of rows of bytes. -/
def RdS (w : World) (A : Option Addr) (xs : List BRec) : Prop := RdR w A (xs.map BRec.cell) ∧ ∀ x ∈ xs, Rd w x.A x.b
theorem RdS.ext {w w' : World} {A : Option Addr} {xs : List BRec} (h : RdS w A xs) (hb : Below w.heap.size w w') : RdS w' A xs := ⟨h.1.ext hb, fun x hx => (h.2 x hx).ext hb⟩
theorem RdS.at_ {w : World} {A : Option Addr} {xs : List BRec} (h : RdS w A xs) (hl : 0 < xs.length) : ∃ b o, A = some ⟨b, o, none⟩ ∧ b < w.heap.size ∧ ∀ k (hk : k < xs.length), w.cell? ⟨b, o + k, none⟩ = some xs[k].cell := by
  obtain ⟨b, o, e, hb, hc⟩ := h.1.at_ (by simpa using hl)
  exact ⟨b, o, e, hb, fun k hk => hc k _ (by rw [List.getElem?_map, List.getElem?_eq_getElem hk]; rfl)⟩
theorem flatB_take (xs : List BRec) (k : Nat) (hk : k < xs.length) : flatR (xs.take (k + 1)) = flatR (xs.take k) ++ xs[k].b := by
  unfold flatR; rw [List.take_succ_eq_append_getElem hk, List.map_append, List.flatten_append]; simp
theorem flatB_le (xs : List BRec) (k : Nat) : (flatR (xs.take k)).length ≤ (flatR xs).length := by
  have : flatR xs = flatR (xs.take k) ++ flatR (xs.drop k) := by
    unfold flatR; rw [← List.flatten_append, ← List.map_append, List.take_append_drop]
  rw [this, List.length_append]; omega

set_option maxHeartbeats 400000 in
theorem sliceGrow0 (n : Int) (w : World) (h0 : 0 ≤ n) (hn : n ≤ 140737488355328) :
    Calls Tryd.prog 36 #[.slice none 0 0, .int .i64 n] w fun e w' => ∃ A c, e = .returned (.slice A 0 c) ∧ Own w' w.heap.size 5 A c [] ∧ Below w.heap.size w w' := by
  obtain ⟨m, rfl⟩ := Int.eq_ofNat_of_zero_le h0
  rcases Nat.eq_zero_or_pos m with hm | hm
  · subst hm
    go_enter Tryd.func36, Tryd.ntmps36
    go_wp2
    go_ret
    exact ⟨none, 0, rfl, Own.nil _ _ _, Below.refl _ _⟩
  · obtain ⟨i, hi, hz, h1, h2⟩ := info_parts bytC.info
    have hrun := Lib.run_append_nil_zeros (P := Tryd.prog) w 22 3 22 5 i _ .i64 .i64 Tryd.underlying22 Tryd.underlying3 hi hz m hm (by omega) (by omega) (by rw [h2]; omega)
    have hg := grownCap_ge w m 0 5
    have hx := grownCap_le_maxLen w m 0 5 (by simp only [maxLen]; omega)
    have Hrun := hide hrun
    clear hrun
    go_enter Tryd.func36, Tryd.ntmps36
    go_wp2_with (at_builtin; refine stopAt ?_)
    refine unstop (Lib.wpList_append_run _ rfl _ _ _ _ rfl _ _ rfl rfl _ _ Hrun.out ?_)
    generalize grownCap w m 0 5 = cap at *
    have hx2 : (cap : Int) ≤ 9223372036854775807 := by simp only [maxLen] at hx; omega
    have hown : Own (w.drew.alloc (.cells (Builtin.zeroCells (Value.int .u8 0).cells m ++ Builtin.zeroCells (Value.int .u8 0).cells (cap - m)) 5)) w.heap.size 5 (some ⟨w.heap.size, 0, none⟩) cap [] := by
      refine ⟨rfl, .inr ⟨w.heap.size, cap, _, rfl, Nat.le_refl _, heap_alloc_new w.drew _, Nat.zero_le _, hx, ?_, by simp⟩⟩
      rw [Array.size_append, size_zeroCells, size_zeroCells]
      simp [Value.cells]
      omega
    have hbel : Below w.heap.size w (w.drew.alloc (.cells (Builtin.zeroCells (Value.int .u8 0).cells m ++ Builtin.zeroCells (Value.int .u8 0).cells (cap - m)) 5)) := ((Below.refl _ w).drew).alloc (Nat.le_refl _) _
    revert hown hbel
    generalize w.drew.alloc _ = w1
    intro hown hbel
    have Ho := hide hown
    clear hown
    go_wp2
    go_ret
    exact ⟨some ⟨w.heap.size, 0, none⟩, cap, rfl, Ho.out, hbel⟩

set_option maxHeartbeats 1000000 in
theorem sliceConcat (A : Option Addr) (n c : Nat) (xs : List BRec) (w : World) (hn : n = xs.length) (hr : RdS w A xs) (hl : xs.length ≤ 1099511627776) (hb : (flatR xs).length ≤ 1099511627776) :
    Calls Tryd.prog 23 #[.slice A n c] w fun e w' => ∃ A' c', e = .returned (.slice A' (flatR xs).length c') ∧ Own w' w.heap.size 5 A' c' (flatR xs) ∧ Below w.heap.size w w' := by
  subst hn
  go_enter Tryd.func23, Tryd.ntmps23
  go_wp2
  go_loop [3, 11] (fun s i => ∃ k : Nat, k ≤ xs.length ∧ i = .int .i64 k ∧ s = .int .i64 (flatR (xs.take k)).length) (fun _ i => xs.length - (intOf i).toNat)
  case atStart => exact ⟨0, Nat.zero_le _, rfl, rfl⟩
  case round =>
    obtain ⟨k, hk, rfl, rfl⟩ := hrel
    have hle := flatB_le xs k
    by_cases hlt : k < xs.length
    · obtain ⟨b, o, rfl, hb1, hc⟩ := hr.at_ (by omega)
      have e1 := hc k hlt
      unfold BRec.cell at e1
      have H1 := hide (flatB_take xs k hlt)
      have h2 := flatB_le xs (k + 1)
      rw [H1.out, List.length_append] at h2
      clear hc
      generalize hL : xs[k].b = L at *
      have HL := hide hL
      clear hL
      have hlen : (0 : Int) ≤ (((flatR (xs.take k)).length : Int)) + (L.length : Int) := by omega
      generalize hY : flatR (xs.take k) = Y at *
      have HY := hide hY
      clear hY
      go_wp2
      go_round
      case rel => exact ⟨k + 1, by omega, by go_num, by rw [H1.out, List.length_append]; go_num⟩
      case measure => simp [intOf]; omega
    · have hge : xs.length ≤ k := by omega
      have hk2 := hide (show k = xs.length by omega)
      have e1 := hide (show flatR (xs.take k) = flatR xs by rw [List.take_of_length_le hge])
      rw [e1.out]
      clear hle
      go_wp2_with (at_builtin; refine stopAt ?_)
      refine (sliceGrow0 _ _ (by omega) (by omega)).mono ?_
      rintro e w1 ⟨A1, c1, rfl, o1, b1⟩
      have hS := (Sep.start w).call b1 (x := .row 5 A1 c1 []) o1
      simp only [List.cons_append, List.nil_append, List.set_cons_zero, List.set_cons_succ, List.map_cons, List.map_nil, List.getD_cons_zero, List.getD_cons_succ, Array.toList] at hS
      clear o1 b1
      go_wp2_with (at_builtin; refine stopAt ?_)
      go_loopw [6, 27] (fun s i wr => ∃ k : Nat, k ≤ xs.length ∧ i = .int .i64 k ∧ ∃ A' c', s = .slice A' (flatR (xs.take k)).length c' ∧ Sep w.heap.size w wr [.row 5 A' c' (flatR (xs.take k))]) (fun _ i _ => xs.length - (intOf i).toNat)
      case atStart => exact ⟨0, Nat.zero_le _, rfl, A1, c1, rfl, hS⟩
      case round =>
        clear hS
        obtain ⟨j, hj, rfl, A', c', rfl, hS⟩ := hrel
        have hle := flatB_le xs j
        by_cases hlt : j < xs.length
        · have hrw := hr.ext hS.below
          obtain ⟨b, o, rfl, hb1, hc⟩ := hrw.at_ (by omega)
          have e1 := hc j hlt
          unfold BRec.cell at e1
          have hrd := hrw.2 xs[j] (List.getElem_mem hlt)
          have H1 := hide (flatB_take xs j hlt)
          have h2 := flatB_le xs (j + 1)
          rw [H1.out, List.length_append] at h2
          clear hc hrw
          generalize hL : xs[j].b = L at *
          have HL := hide hL
          clear hL
          generalize hY : flatR (xs.take j) = Y at *
          have HY := hide hY
          clear hY
          go_wp2_with (at_builtin; refine stopAt ?_)
          refine unstop (wpList_appS hS 0 bytC rfl rfl rfl hrd rfl rfl rfl rfl (by omega) ?_)
          clear hS
          intro A5 c5 w5 hS
          simp only [List.cons_append, List.nil_append, List.set_cons_zero, List.set_cons_succ, List.map_cons, List.map_nil, List.getD_cons_zero, List.getD_cons_succ, Array.toList] at hS
          go_wp2
          go_roundw
          case rel => exact ⟨j + 1, by omega, by go_num, A5, c5, by rw [H1.out, List.length_append], by rw [H1.out]; exact hS⟩
          case measure => simp [intOf]; omega
        · have hge : xs.length ≤ j := by omega
          have e2 : flatR (xs.take j) = flatR xs := by rw [List.take_of_length_le hge]
          rw [e2] at hS ⊢
          have ho := hS.own 0 rfl
          have hbel := hS.below
          clear hS e2 hle
          go_wp2
          go_ret
          exact ⟨A', c', rfl, ho, hbel⟩
end Go.Proofs.YtjdlngbobnknmaaDoor
