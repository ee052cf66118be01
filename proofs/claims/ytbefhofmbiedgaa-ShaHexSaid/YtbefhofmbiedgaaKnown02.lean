/- 'known' of layer 2's statements. -/
import Derived.Test.YtbefhofmbiedgaaHex
import Derived.Lib.SlBytesConst
namespace Go.Proofs.Ytbefhofmbiedgaa
set_option linter.all false
open Go.RowKit

theorem sha_len (l : List UInt8) : (sha l).length = 20 := by unfold sha; exact bytes_len _

theorem conv_const (w : World) (C : Array Value) (n c g : Nat) (hg : g = w.heap.size) : (convert 22 22 (.slice (some ⟨g, 0, none⟩) n c)).run Try.prog (w.alloc (.cells C 5)) = .ok (.slice (some ⟨g, 0, none⟩) n c) (w.alloc (.cells C 5 (C.size, C.size + 1))) := by
  subst hg
  exact Lib.run_convert_bytes_const (P := Try.prog) w 22 5 C n c Try.underlying22 Try.underlying5
theorem Rd.lit (w : World) (e : TypeId) (l : List UInt8) (fr : Nat × Nat) (cs : Array Value) (h : cs = (l.map U).toArray) : Rd (w.alloc (.cells cs e fr)) (some ⟨w.heap.size, 0, none⟩) l := by
  subst h
  intro hl
  refine ⟨w.heap.size, 0, rfl, fun k hk => ?_⟩
  rw [Nat.zero_add, cell_of_row _ _ _ (l.map U).toArray e fr (by show (w.heap.push _)[w.heap.size]? = _; simp), ← at8_get l k hk, List.getElem?_toArray, List.getElem?_map, List.getElem?_eq_getElem hk]
  rfl
theorem Rd.lit_at (w : World) (e : TypeId) (l : List UInt8) (fr : Nat × Nat) (cs : Array Value) (h : cs = (l.map U).toArray) (g : Nat) (hg : g = w.heap.size) : Rd (w.alloc (.cells cs e fr)) (some ⟨g, 0, none⟩) l := hg ▸ Rd.lit w e l fr cs h

theorem RdS.nil (w : World) : RdS w none [] := ⟨fun h => absurd h (by simp), fun x hx => by cases hx⟩

set_option maxHeartbeats 1000000 in
theorem known_calls (w : World) : Calls Try.prog 8 #[] w fun e w' => e = .returned (.bool true) ∧ Below w.heap.size w w' := by
  have kc := conv_const
  go_enter Try.func8, Try.ntmps8
  go_wp2_with (at_builtin; refine stopAt ?_)
  refine (shaSum none 0 0 [] w rfl (RdS.nil w) (by simp) (by simp [flatR])).mono ?_
  rintro e w1 ⟨rfl, b1⟩
  dsimp only
  go_wp2_with (at_builtin; refine stopAt ?_)
  refine (shaHex _ (sha_len _) w1).mono ?_
  rintro e w2 ⟨rfl, b2⟩
  rw [show flatR [] = [] from rfl, known1]
  replace b2 := b1.trans (b2.mono b1.size)
  clear b1
  go_wp2_with (at_builtin; refine stopAt ?_)
  have hr : RdS (((w2.alloc (.cells #[.int .u8 97] 5 (1, 2))).alloc (.cells #[.int .u8 98, .int .u8 99] 5 (2, 3))).alloc
      (.cells #[.slice (some ⟨w2.heap.size, 0, none⟩) 1 1, .slice (some ⟨w2.heap.size + 1, 0, none⟩) 2 2] 22)) (some ⟨w2.heap.size + 1 + 1, 0, none⟩)
      [⟨some ⟨w2.heap.size, 0, none⟩, 1, [97]⟩, ⟨some ⟨w2.heap.size + 1, 0, none⟩, 2, [98, 99]⟩] := by
    refine ⟨fun _ => ⟨_, 0, rfl, fun j u hj => ?_⟩, fun h hh => ?_⟩
    · rw [show w2.heap.size + 1 + 1 = ((w2.alloc (.cells #[.int .u8 97] 5 (1, 2))).alloc (.cells #[.int .u8 98, .int .u8 99] 5 (2, 3))).heap.size by simp]
      rw [Nat.zero_add, cell_of_row _ _ _ _ 22 (0, 0) (heap_alloc_new _ _), List.getElem?_toArray]
      exact hj
    · rcases List.mem_cons.1 hh with rfl | hh
      · exact ((Rd.lit_at w2 _ [97] (1, 2) _ rfl _ rfl).alloc _).alloc _
      · rcases List.mem_cons.1 hh with rfl | hh
        · exact (Rd.lit_at _ _ [98, 99] (2, 3) _ rfl _ (by simp)).alloc _
        · cases hh
  have hb : Below w.heap.size w (((w2.alloc (.cells #[.int .u8 97] 5 (1, 2))).alloc (.cells #[.int .u8 98, .int .u8 99] 5 (2, 3))).alloc
      (.cells #[.slice (some ⟨w2.heap.size, 0, none⟩) 1 1, .slice (some ⟨w2.heap.size + 1, 0, none⟩) 2 2] 22)) := by
    have := b2.size
    refine Below.alloc (Below.alloc (Below.alloc b2 ?_ _) ?_ _) ?_ _ <;> (try simp) <;> omega
  refine (shaSum _ 2 2 _ _ rfl hr (by simp) (by simp [flatR])).mono ?_
  rintro e w3 ⟨rfl, b3⟩
  replace b3 := hb.trans (b3.mono hb.size)
  clear hb hr
  dsimp only
  go_wp2_with (at_builtin; refine stopAt ?_)
  refine (shaHex _ (sha_len _) w3).mono ?_
  rintro e w4 ⟨rfl, b4⟩
  replace b4 := b3.trans (b4.mono b3.size)
  rw [show flatR [⟨some ⟨w2.heap.size, 0, none⟩, 1, [97]⟩, ⟨some ⟨w2.heap.size + 1, 0, none⟩, 2, [98, 99]⟩] = [97, 98, 99] from rfl, known2]
  go_wp2
  go_ret
  exact ⟨rfl, b4⟩
end Go.Proofs.Ytbefhofmbiedgaa
