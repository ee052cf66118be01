/- There and back. -/
import Derived.Test.YtehbpibpbfomhaaDoorParseLaw
import Derived.Lib.IndexLaws
namespace Go.Proofs.YtehbpibpbfomhaaDoor
set_option linter.all false

theorem dv_digF : ∀ k : Fin 16, Lib.indexByte digs (digs.getD k.1 0) = (k.1 : Int) := by decide
theorem dv_dig (k : Nat) (h : k < 16) : dv (digs.getD k 0) = (k : Int) := by unfold dv; exact dv_digF ⟨k, h⟩
theorem dv_upF : ∀ k : Fin 6, Lib.indexByte digs (UInt8.ofNat (65 + k.1)) = -1 := by decide
theorem dv_up (c : UInt8) (h1 : 65 ≤ c.toNat) (h2 : c.toNat ≤ 70) : dv c = -1 := by
  unfold dv
  have h := dv_upF ⟨c.toNat - 65, by omega⟩
  have e : 65 + (c.toNat - 65) = c.toNat := by omega
  simp only [e] at h
  rwa [UInt8.ofNat_toNat] at h
theorem dig_dv (c : UInt8) (h : 0 ≤ dv c) : digs.getD (dv c).toNat 0 = c := by
  obtain ⟨o, ho⟩ : ∃ o : Nat, dv c = o := ⟨(dv c).toNat, by omega⟩
  rw [ho]
  unfold dv at ho
  have := (Lib.indexByte_some ho).1
  simp only [Int.toNat_natCast, List.getD_eq_getElem?_getD, this, Option.getD_some]
theorem hexL_at : ∀ (l : List UInt8) (j : Nat), j < l.length → (hexL l).getD (2 * j) 0 = digs.getD ((l.getD j 0).toNat / 16) 0 ∧ (hexL l).getD (2 * j + 1) 0 = digs.getD ((l.getD j 0).toNat % 16) 0
  | [], j, h => absurd h (by simp)
  | b :: l, 0, _ => ⟨rfl, rfl⟩
  | b :: l, j + 1, h => by
    have ih := hexL_at l j (by simpa using h)
    rw [show 2 * (j + 1) = 2 * j + 1 + 1 by omega, hexL, List.getD_cons_succ, List.getD_cons_succ, List.getD_cons_succ, List.getD_cons_succ, List.getD_cons_succ]
    exact ih
theorem hexL_ok : ∀ (l : List UInt8), ∀ c ∈ hexL l, 0 ≤ dv c
  | [], c, h => by cases h
  | b :: l, c, h => by
    have := b.toNat_lt
    rw [hexL, List.mem_cons, List.mem_cons] at h
    rcases h with rfl | rfl | h
    · rw [dv_dig _ (by omega)]; omega
    · rw [dv_dig _ (by omega)]; omega
    · exact hexL_ok l c h
theorem parse_hexN (id : List UInt8) (j : Nat) (hj : j < 20) (h : id.length = 20) : outN (hexL id) 40 j = (id.getD j 0).toNat := by
  obtain ⟨h1, h2⟩ := hexL_at id j (by omega)
  have := (id.getD j 0).toNat_lt
  unfold outN
  rw [if_pos (by omega), h1, h2, dv_dig _ (by omega), dv_dig _ (by omega), Int.toNat_natCast, Int.toNat_natCast]
  omega
theorem parse_hex (id : List UInt8) (h : id.length = 20) : outL (hexL id) 40 = id := by
  apply List.ext_getElem?
  intro j
  unfold outL
  by_cases hj : j < 20
  · rw [List.getElem?_map, List.getElem?_range hj, Option.map_some, parse_hexN id j hj h, UInt8.ofNat_toNat, List.getD_eq_getElem?_getD, List.getElem?_eq_getElem (by omega)]
    rfl
  · rw [List.getElem?_eq_none (by simp; omega), List.getElem?_eq_none (by omega)]
theorem outL_length (s : List UInt8) (i : Nat) : (outL s i).length = 20 := by unfold outL; simp
theorem outL_at (s : List UInt8) (i j : Nat) (h : j < 20) : ((outL s i).getD j 0).toNat = outN s i j := by
  have := outN_lt s i j
  unfold outL
  rw [List.getD_eq_getElem?_getD, List.getElem?_map, List.getElem?_range h]
  simp
  omega
theorem hex_parse (s : List UInt8) (h : s.length = 40) (hv : ∀ c ∈ s, 0 ≤ dv c) : hexL (outL s 40) = s := by
  have hat : ∀ n, n < 40 → 0 ≤ dv (s.getD n 0) := fun n hn => hv _ (by
    rw [List.getD_eq_getElem?_getD, List.getElem?_eq_getElem (by omega)]; exact List.getElem_mem _)
  have key : ∀ n, n < 40 → (hexL (outL s 40)).getD n 0 = s.getD n 0 := by
    intro n hn
    obtain ⟨h1, h2⟩ := hexL_at (outL s 40) (n / 2) (by rw [outL_length]; omega)
    rw [outL_at s 40 (n / 2) (by omega)] at h1 h2
    have hd : outN s 40 (n / 2) = 16 * (dv (s.getD (2 * (n / 2)) 0)).toNat + (dv (s.getD (2 * (n / 2) + 1) 0)).toNat := by
      unfold outN; rw [if_pos (by omega)]
    have l1 := dv_lt (s.getD (2 * (n / 2)) 0)
    have l2 := dv_lt (s.getD (2 * (n / 2) + 1) 0)
    rcases (show n = 2 * (n / 2) ∨ n = 2 * (n / 2) + 1 by omega) with e | e
    · have e1 : outN s 40 (n / 2) / 16 = (dv (s.getD (2 * (n / 2)) 0)).toNat := by omega
      rw [e1, dig_dv _ (hat _ (by omega)), ← e] at h1
      exact h1
    · have e1 : outN s 40 (n / 2) % 16 = (dv (s.getD (2 * (n / 2) + 1) 0)).toNat := by omega
      rw [e1, dig_dv _ (hat _ (by omega)), ← e] at h2
      exact h2
  apply List.ext_getElem?
  intro n
  by_cases hn : n < 40
  · have := key n hn
    rw [List.getD_eq_getElem?_getD, List.getD_eq_getElem?_getD, List.getElem?_eq_getElem (by rw [hexL_length, outL_length]; omega), List.getElem?_eq_getElem (by omega)] at this
    rw [List.getElem?_eq_getElem (by rw [hexL_length, outL_length]; omega), List.getElem?_eq_getElem (by omega)]
    simpa using this
  · rw [List.getElem?_eq_none (by rw [hexL_length, outL_length]; omega), List.getElem?_eq_none (by omega)]
end Go.Proofs.YtehbpibpbfomhaaDoor
