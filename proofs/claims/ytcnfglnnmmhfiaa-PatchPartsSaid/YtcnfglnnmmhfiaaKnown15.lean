/- 'few' and 'known' of layer 15's statements. -/
import Derived.Test.YtcnfglnnmmhfiaaRefP15
import Derived.Test.YtcnfglnnmmhfiaaApply
import Derived.Lib.SlBytesConst
namespace Go.Proofs.Ytcnfglnnmmhfiaa
set_option linter.all false
open Go.RowKit

/-- A new block of bytes that are written out, with the run-time's mark. -/
theorem Rd.lit (w : World) (e : TypeId) (l : List UInt8) (fr : Nat × Nat) (cs : Array Value) (h : cs = (l.map U).toArray) : Rd (w.alloc (.cells cs e fr)) (some ⟨w.heap.size, 0, none⟩) l := by
  subst h
  intro hl
  refine ⟨w.heap.size, 0, rfl, fun k hk => ?_⟩
  rw [Nat.zero_add, cell_of_row _ _ _ (l.map U).toArray e fr (by show (w.heap.push _)[w.heap.size]? = _; simp), ← at8_get l k hk, List.getElem?_toArray, List.getElem?_map, List.getElem?_eq_getElem hk]
  rfl
theorem Rd.lit_at (w : World) (e : TypeId) (l : List UInt8) (fr : Nat × Nat) (cs : Array Value) (h : cs = (l.map U).toArray) (g : Nat) (hg : g = w.heap.size) : Rd (w.alloc (.cells cs e fr)) (some ⟨g, 0, none⟩) l := hg ▸ Rd.lit w e l fr cs h

theorem conv_const (w : World) (C : Array Value) (n c g : Nat) (hg : g = w.heap.size) : (convert 22 22 (.slice (some ⟨g, 0, none⟩) n c)).run Try.prog (w.alloc (.cells C 5)) = .ok (.slice (some ⟨g, 0, none⟩) n c) (w.alloc (.cells C 5 (C.size, C.size + 1))) := by
  subst hg
  exact Lib.run_convert_bytes_const (P := Try.prog) w 22 5 C n c Try.underlying22 Try.underlying5

theorem few_calls (A : Option Addr) (n c : Nat) (w : World) (hn : n ≤ c) (hc : c ≤ 9223372036854775807) :
    Calls Try.prog 4 #[.slice A n c] w fun e w' => e = .returned (.slice A (min n 1000) c) ∧ w = w' := by
  by_cases h : n ≤ 1000
  · have e1 : min n 1000 = n := by omega
    rw [e1]
    have hi : (n : Int) ≤ 1000 := by omega
    have hi2 : (n : Int) ≤ (c : Int) := by omega
    clear e1
    go_enter Try.func4, Try.ntmps4
    go_wp2
    go_ret
    exact ⟨rfl, rfl⟩
  · have e1 : min n 1000 = 1000 := by omega
    rw [e1]
    have hi : (1000 : Int) < (n : Int) := by omega
    have hi2 : (1000 : Int) ≤ (c : Int) := by omega
    clear e1
    go_enter Try.func4, Try.ntmps4
    go_wp2
    go_ret
    exact ⟨rfl, rfl⟩

theorem known_a (A A' : Option Addr) (c c' : Nat) : applyRes [97, 98, 99, 100] (printB [⟨1, 2, A, c, [120, 121]⟩, ⟨4, 4, A', c', [122]⟩]) 6 = ([97, 120, 121, 99, 100, 122], 0) := by kernel_rfl
theorem known_b (A A' : Option Addr) (c c' : Nat) : applyRes [97, 98, 99, 100] (printB [⟨1, 2, A, c, [120, 121]⟩, ⟨4, 4, A', c', [122]⟩]) 5 = ([], 2) := by kernel_rfl

set_option maxHeartbeats 1000000 in
theorem known_calls (w : World) : Calls Try.prog 7 #[] w fun e w' => e = .returned (.bool true) ∧ Below w.heap.size w w' := by
  have kc := conv_const
  go_enter Try.func7, Try.ntmps7
  go_wp2_with (at_builtin; refine stopAt ?_)
  refine unstop ?_
  have hH : RdH (((w.alloc (.cells #[.int .u8 120, .int .u8 121] 5 (2, 3))).alloc (.cells #[.int .u8 122] 5 (1, 2))).alloc
      (.cells #[.int .i64 1, .int .i64 2, .slice (some ⟨w.heap.size, 0, none⟩) 2 2, .int .i64 4, .int .i64 4, .slice (some ⟨w.heap.size + 1, 0, none⟩) 1 1] 27))
      (some ⟨w.heap.size + 1 + 1, 0, none⟩) [⟨1, 2, some ⟨w.heap.size, 0, none⟩, 2, [120, 121]⟩, ⟨4, 4, some ⟨w.heap.size + 1, 0, none⟩, 1, [122]⟩] := by
    refine ⟨fun _ => ⟨_, 0, rfl, fun j u hj => ?_⟩, fun h hh => ?_⟩
    · rw [show w.heap.size + 1 + 1 = ((w.alloc (.cells #[.int .u8 120, .int .u8 121] 5 (2, 3))).alloc (.cells #[.int .u8 122] 5 (1, 2))).heap.size by simp]
      rw [Nat.zero_add, cell_of_row _ _ _ _ 27 (0, 0) (heap_alloc_new _ _), List.getElem?_toArray]
      exact hj
    · rcases List.mem_cons.1 hh with rfl | hh
      · exact ((Rd.lit_at w _ [120, 121] (2, 3) _ rfl _ rfl).alloc _).alloc _
      · rcases List.mem_cons.1 hh with rfl | hh
        · exact (Rd.lit_at _ _ [122] (1, 2) _ rfl _ (by simp)).alloc _
        · cases hh
  have hb0 : Below w.heap.size w (((w.alloc (.cells #[.int .u8 120, .int .u8 121] 5 (2, 3))).alloc (.cells #[.int .u8 122] 5 (1, 2))).alloc
      (.cells #[.int .i64 1, .int .i64 2, .slice (some ⟨w.heap.size, 0, none⟩) 2 2, .int .i64 4, .int .i64 4, .slice (some ⟨w.heap.size + 1, 0, none⟩) 1 1] 27)) := by
    refine Below.alloc (Below.alloc (Below.alloc (Below.refl _ _) (Nat.le_refl _) _) ?_ _) ?_ _ <;> simp <;> omega
  revert hH hb0
  generalize ((w.alloc (.cells #[.int .u8 120, .int .u8 121] 5 (2, 3))).alloc (.cells #[.int .u8 122] 5 (1, 2))).alloc
      (.cells #[.int .i64 1, .int .i64 2, .slice (some ⟨w.heap.size, 0, none⟩) 2 2, .int .i64 4, .int .i64 4, .slice (some ⟨w.heap.size + 1, 0, none⟩) 1 1] 27) = W
  generalize ha0 : some (⟨w.heap.size, 0, none⟩ : Addr) = a0
  generalize ha1 : some (⟨w.heap.size + 1, 0, none⟩ : Addr) = a1
  generalize ha2 : some (⟨w.heap.size + 1 + 1, 0, none⟩ : Addr) = a2
  intro hH hb0
  refine (refPrint a2 2 2 _ W rfl hH (by simp) (by simp [bodyLen])).mono ?_
  have hka := known_a a0 a1 2 1
  have hkb := known_b a0 a1 2 1
  generalize hp : printB [⟨1, 2, a0, 2, [120, 121]⟩, ⟨4, 4, a1, 1, [122]⟩] = p at hka hkb ⊢
  have hpl : p.length = 27 := by rw [← hp, printB_len]; rfl
  replace hka := hide hka
  replace hkb := hide hkb
  clear hp ha0 ha1 ha2 hH
  rintro e w1 ⟨A', c', rfl, hown1, hb1⟩
  dsimp only
  have hp1 := hb0.trans (hb1.mono hb0.size)
  have hs1 := hp1.size
  go_wp2_with (at_builtin; refine stopAt ?_)
  refine unstop ?_
  have hk1 := hown1.lt
  have hcm1 := hown1.cmax
  refine (patchApply _ _ 4 27 4 c' 6 [97, 98, 99, 100] p _ rfl hpl.symm (Rd.lit_at w1 5 [97, 98, 99, 100] (4, 5) _ rfl _ rfl) (hown1.rd.alloc _) (by simp) hown1.cap hcm1 (by simp; omega)
    (fun k hk => by have := (hk1 k hk).2; simp; omega)).mono ?_
  rintro e w2 ⟨A2, c2, rfl, hown2, hb2⟩
  rw [hka.out] at hown2 ⊢
  have hcm2 := hown2.cmax
  have hown1' := (hown1.alloc (.cells #[.int .u8 97, .int .u8 98, .int .u8 99, .int .u8 100] 5 (4, 5))).ext hb2
  have hp2 : Below w.heap.size w w2 := (hp1.alloc hs1 _).trans (hb2.mono (by simp; omega))
  have hs2 := hp2.size
  dsimp only
  go_wp2_with (at_builtin; refine stopAt ?_)
  refine unstop ?_
  have hk1' := hown1'.lt
  refine (patchApply _ _ 4 27 4 c' 5 [97, 98, 99, 100] p _ rfl hpl.symm (Rd.lit_at w2 5 [97, 98, 99, 100] (4, 5) _ rfl _ rfl) (hown1'.rd.alloc _) (by simp) hown1.cap hcm1 (by simp; omega)
    (fun k hk => by have := (hk1' k hk).2; simp; omega)).mono ?_
  rintro e w3 ⟨A3, c3, rfl, hown3, hb3⟩
  rw [hkb.out] at hown3 ⊢
  have hown2' := (hown2.alloc (.cells #[.int .u8 97, .int .u8 98, .int .u8 99, .int .u8 100] 5 (4, 5))).ext hb3
  have hp3 : Below w.heap.size w w3 := (hp2.alloc hs2 _).trans (hb3.mono (by simp; omega))
  have hst := run_str (P := Try.prog) w3 Try.underlying22 Try.underlying5 hown2'.rd (c := c2) rfl Try.underlying9
  dsimp only [List.length_cons, List.length_nil, Nat.reduceAdd] at hst ⊢
  go_wp2
  go_ret
  exact ⟨rfl, hp3⟩
end Go.Proofs.Ytcnfglnnmmhfiaa
