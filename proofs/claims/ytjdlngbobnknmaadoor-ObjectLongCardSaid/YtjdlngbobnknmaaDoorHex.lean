/- sha.Hex: two letters a byte. -/
import Derived.Test.YtjdlngbobnknmaaDoorHexLaw
import Derived.Test.YtjdlngbobnknmaaDoorBuilder
import Derived.Test.YtjdlngbobnknmaaDoorShelf02
import Derived.Test.YtjdlngbobnknmaaDoorHexGen
import Derived.Laws.BitsAll
namespace Go.Proofs.YtjdlngbobnknmaaDoor
set_option linter.all false
open Go.RowKit

theorem index20 (l : List UInt8) (j : Nat) (hl : l.length = 20) (hj : j < 20) (w : World) : (Instr.index 25 (.agg (l.map U).toArray) (.int .i64 (j : Int))).run Tryd.prog w = .ok (U (l.getD j 0)) w := by
  have h1 : (l.map U).toArray[j]? = some (U (l.getD j 0)) := by
    simp [List.getElem?_eq_getElem (show j < l.length by omega)]
  have e : (l.map U).toArray.size = 20 := by simp; omega
  have hz : (0 : Int) ≤ (j : Int) := by omega
  have hw : IntKind.i64.wrap (j : Int) = j := IntWalk.i64_in _ (by omega)
  have hj2 : (j : Int) < 20 := by omega
  simp [go_sem, Instr.index, h1, e, run_underlying Tryd.underlying25, hw, hz, hj2]
  rw [if_pos hj, List.getElem?_eq_getElem (show j < l.length by omega)]
  rfl
def digS : ByteArray := ⟨#[48, 49, 50, 51, 52, 53, 54, 55, 56, 57, 97, 98, 99, 100, 101, 102]⟩
theorem indexDig (k : Nat) (hk : k < 16) (w : World) : (Instr.index 9 (.string digS) (.int .u8 (k : Int))).run Tryd.prog w = .ok (.int .u8 ((digs.getD k 0).toNat : Int)) w := by
  match k, hk with
  | 0, _ => exact (run_index_string w 9 digS .u8 _ Tryd.underlying9).trans rfl
  | 1, _ => exact (run_index_string w 9 digS .u8 _ Tryd.underlying9).trans rfl
  | 2, _ => exact (run_index_string w 9 digS .u8 _ Tryd.underlying9).trans rfl
  | 3, _ => exact (run_index_string w 9 digS .u8 _ Tryd.underlying9).trans rfl
  | 4, _ => exact (run_index_string w 9 digS .u8 _ Tryd.underlying9).trans rfl
  | 5, _ => exact (run_index_string w 9 digS .u8 _ Tryd.underlying9).trans rfl
  | 6, _ => exact (run_index_string w 9 digS .u8 _ Tryd.underlying9).trans rfl
  | 7, _ => exact (run_index_string w 9 digS .u8 _ Tryd.underlying9).trans rfl
  | 8, _ => exact (run_index_string w 9 digS .u8 _ Tryd.underlying9).trans rfl
  | 9, _ => exact (run_index_string w 9 digS .u8 _ Tryd.underlying9).trans rfl
  | 10, _ => exact (run_index_string w 9 digS .u8 _ Tryd.underlying9).trans rfl
  | 11, _ => exact (run_index_string w 9 digS .u8 _ Tryd.underlying9).trans rfl
  | 12, _ => exact (run_index_string w 9 digS .u8 _ Tryd.underlying9).trans rfl
  | 13, _ => exact (run_index_string w 9 digS .u8 _ Tryd.underlying9).trans rfl
  | 14, _ => exact (run_index_string w 9 digS .u8 _ Tryd.underlying9).trans rfl
  | 15, _ => exact (run_index_string w 9 digS .u8 _ Tryd.underlying9).trans rfl
  | k + 16, hk => exact absurd hk (by omega)
theorem u8_hi (u : UInt8) : (u.toNat : Int) / 16 = ((u.toNat / 16 : Nat) : Int) := by omega
theorem u8_lo (u : UInt8) : bits .and .u8 (u.toNat : Int) 15 = ((u.toNat % 16 : Nat) : Int) := by
  have h := u8_and_nat u.toNat 15 u.toNat_lt (by omega)
  rw [show ((15 : Nat) : Int) = 15 from rfl] at h
  rw [h, show (15 : Nat) = 2 ^ 4 - 1 from rfl, Nat.and_two_pow_sub_one_eq_mod]

theorem hexL_take (l : List UInt8) (k : Nat) (u : UInt8) (hk : k < l.length) (hu : l.getD k 0 = u) : hexL (l.take (k + 1)) = hexL (l.take k) ++ [digs.getD (u.toNat / 16) 0] ++ [digs.getD (u.toNat % 16) 0] := by
  have e : l.take (k + 1) = l.take k ++ [u] := by
    rw [List.take_succ, List.getElem?_eq_getElem hk, ← hu]
    simp [List.getElem?_eq_getElem hk]
  rw [e, hexL_append]
  simp [hexL]
theorem byteCells_snoc (X : List UInt8) (d : UInt8) : Lib.byteCells X ++ [.int .u8 (d.toNat : Int)] = Lib.byteCells (X ++ [d]) := by simp [Lib.byteCells]

set_option maxHeartbeats 2000000 in
set_option maxRecDepth 100000 in
theorem shaHex (l : List UInt8) (h20 : l.length = 20) (w : World) :
    Calls Tryd.prog 17 #[.agg (l.map U).toArray] w fun e w' => e = .returned (.string ⟨(hexL l).toArray⟩) ∧ Below w.heap.size w w' := by
  go_enter Tryd.func17, Tryd.ntmps17
  go_wp2_with (with_reducible refine wpList_stop_load (ty := 25) (x := .tmp 1) rfl ?_)
  have hS := ((Sep.start w).allocC (l.map U).toArray 25).allocC #[.pointer none, .slice none 0 0] 60
  rw [show (w.alloc (.cells (l.map U).toArray 25)).heap.size = w.heap.size + 1 from World.size_alloc _ _] at hS
  refine unstop (wpList_load_row rfl 25 (.tmp 1) rfl w.heap.size rfl 25 (l.map U).toArray (0, 0) _ (hS.blk 0 rfl) Tryd.underlying25 rfl (by rw [show (l.map U).toArray.size = 20 by simp [h20]]; exact info20) ?_)
  have hb : Lib.IsBuilder 60 5 w.heap.size (w.heap.size + 1) (Lib.byteCells (hexL [])) ((w.alloc (.cells (l.map U).toArray 25)).alloc (.cells #[.pointer none, .slice none 0 0] 60)) :=
    Or.inl ⟨by omega, .slice none 0 0, hS.blk 1 rfl, World.ownsRow_nil _ _ _ _, by simp [Value.ownBlock]⟩
  have hB := hS.below
  clear hS
  go_wp2
  go_loopw [7] (fun i wr => ∃ k : Nat, k ≤ 20 ∧ i = .int .i64 k ∧ Lib.IsBuilder 60 5 w.heap.size (w.heap.size + 1) (Lib.byteCells (hexL (l.take k))) wr ∧ Below w.heap.size w wr)
    (fun i _ => 20 - (intOf i).toNat)
  case atStart => exact ⟨0, by omega, rfl, by simpa using hb, hB⟩
  case round =>
    clear hb hB
    obtain ⟨k, hk, rfl, hb, hB⟩ := hrel
    by_cases hlt : k < 20
    · obtain ⟨u, hu⟩ : ∃ u, l.getD k 0 = u := ⟨_, rfl⟩
      have hx : ∀ w, (Instr.index 25 (.agg (l.map U).toArray) (.int .i64 (k : Int))).run Tryd.prog w = .ok (.int .u8 (u.toNat : Int)) w := by
        rw [← hu]; exact index20 l k h20 hlt
      have h1 : ∀ w, (Instr.index 9 (.string ⟨#[48, 49, 50, 51, 52, 53, 54, 55, 56, 57, 97, 98, 99, 100, 101, 102]⟩) (.int .u8 ((u.toNat : Int) / 16))).run Tryd.prog w = .ok (.int .u8 ((digs.getD (u.toNat / 16) 0).toNat : Int)) w := fun w => by
        have := u.toNat_lt
        rw [u8_hi]; exact indexDig _ (by omega) w
      have h2 : ∀ w, (Instr.index 9 (.string ⟨#[48, 49, 50, 51, 52, 53, 54, 55, 56, 57, 97, 98, 99, 100, 101, 102]⟩) (.int .u8 (bits .and .u8 (u.toNat : Int) 15))).run Tryd.prog w = .ok (.int .u8 ((digs.getD (u.toNat % 16) 0).toNat : Int)) w := fun w => by
        rw [u8_lo]; exact indexDig _ (by omega) w
      have htk := hide (hexL_take l k u (by omega) hu)
      have hle := hide (show (hexL (l.take k)).length ≤ 40 by rw [hexL_length, List.length_take]; omega)
      generalize hexL (l.take k) = X at *
      generalize digs.getD (u.toNat / 16) 0 = d1 at *
      generalize digs.getD (u.toNat % 16) 0 = d2 at *
      go_wp2_with (at_builtin; refine stopAt ?_)
      refine (writeByte w.heap.size (w.heap.size + 1) (Lib.byteCells X) _ wr hb (by rw [Lib.byteCells_length]; have := hle.out; omega) hB.size).mono ?_
      rintro e w1 ⟨rfl, hb1, hB1⟩
      rw [byteCells_snoc] at hb1
      replace hB := hB.trans hB1
      clear hb hB1
      go_wp2_with (at_builtin; refine stopAt ?_)
      refine (writeByte w.heap.size (w.heap.size + 1) (Lib.byteCells (X ++ [d1])) _ w1 (.inr hb1) (by rw [Lib.byteCells_length, List.length_append]; have := hle.out; simp; omega) hB.size).mono ?_
      rintro e w2 ⟨rfl, hb2, hB2⟩
      rw [byteCells_snoc] at hb2
      replace hB := hB.trans hB2
      clear hb1 hB2
      go_wp2
      go_roundw
      case rel => exact ⟨k + 1, by omega, rfl, .inr (by rw [htk.out]; exact hb2), hB⟩
      case measure => simp [intOf]; omega
    · obtain rfl : k = 20 := by omega
      rw [List.take_of_length_le (by omega)] at hb
      go_wp2_with (at_builtin; refine stopAt ?_)
      refine (Tryd.Builder_String_any w.heap.size (w.heap.size + 1) (hexL l) wr hb hB.size).mono ?_
      rintro e w1 ⟨rfl, hB1⟩
      replace hB := hB.trans hB1
      go_wp2
      go_ret
      exact ⟨rfl, hB⟩
end Go.Proofs.YtjdlngbobnknmaaDoor
