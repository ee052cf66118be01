/- Sums' texts: the document's and the program's say the same, on plain lists. -/
import Derived.Test.YtehbpibpbfomhaaDoorF02b
import Derived.Test.YtehbpibpbfomhaaDoorRParse2
namespace Go.Proofs.YtehbpibpbfomhaaDoor
set_option linter.all false
open Go.RowKit

theorem hexI_eq : ∀ l : List UInt8, hexI l = hexL l
  | [] => rfl
  | u :: l => by
    have hu := u.toNat_lt
    have h1 := digN_digs ⟨u.toNat / 16, by omega⟩
    have h2 := digN_digs ⟨u.toNat % 16, by omega⟩
    simp only at h1 h2
    have ih := hexI_eq l
    unfold hexI at ih ⊢
    rw [List.flatMap_cons, ih, hexL, show (u.toNat : Int) / 16 = ((u.toNat / 16 : Nat) : Int) by omega, show (u.toNat : Int) % 16 = ((u.toNat % 16 : Nat) : Int) by omega, h1, h2]
    simp only [Int.toNat_natCast, UInt8.ofNat_toNat, List.cons_append, List.nil_append]
theorem goodQ_iff (l : List UInt8) : goodQ l = true ↔ l.length = 40 ∧ ∀ c ∈ l, 0 ≤ dv c := by unfold goodQ; simp
theorem goodP_eq (l : List UInt8) : goodP l = goodQ l := by
  rw [Bool.eq_iff_iff, goodQ_iff]
  unfold goodP
  simp only [Bool.and_eq_true, List.all_eq_true, decide_eq_true_eq, List.mem_range]
  constructor
  · rintro ⟨h1, h2⟩
    refine ⟨h1, fun c hc => ?_⟩
    obtain ⟨n, hn, rfl⟩ := List.getElem_of_mem hc
    have h3 := h2 (n / 2) (by omega)
    have e : ∀ k, k < l.length → l.getD k 0 = l.getD k 0 := fun _ _ => rfl
    have hg : l.getD n 0 = l[n] := by rw [List.getD_eq_getElem?_getD, List.getElem?_eq_getElem hn]; rfl
    rcases (show n = 2 * (n / 2) ∨ n = 2 * (n / 2) + 1 by omega) with e | e
    · have := h3.1; rw [← e, hg] at this; exact this
    · have := h3.2; rw [← e, hg] at this; exact this
  · rintro ⟨h1, h2⟩
    have hat : ∀ n, n < 40 → 0 ≤ dv (l.getD n 0) := fun n hn => h2 _ (by rw [List.getD_eq_getElem?_getD, List.getElem?_eq_getElem (by omega)]; exact List.getElem_mem _)
    exact ⟨h1, fun x hx => ⟨hat _ (by omega), hat _ (by omega)⟩⟩
theorem rOut_eq (l : List UInt8) : rOut l = pOut l := by
  unfold rOut pOut
  rw [goodP_eq]
  split
  · unfold outL
    refine List.map_congr_left fun j hj => ?_
    have := List.mem_range.1 hj
    unfold outN valP
    rw [if_pos (by omega)]
  · rfl
theorem pOut_len (l : List UInt8) : (pOut l).length = 20 := by
  unfold pOut
  split
  · exact outL_length _ _
  · simp
theorem hex_good (l : List UInt8) (h : l.length = 20) : goodQ (hexL l) = true := (goodQ_iff _).2 ⟨by rw [hexL_length, h], hexL_ok l⟩
theorem pErr_hex (l : List UInt8) (h : l.length = 20) : pErr (hexL l) = 0 := by unfold pErr; rw [if_pos (hex_good l h)]
theorem pOut_hex (l : List UInt8) (h : l.length = 20) : pOut (hexL l) = l := by unfold pOut; rw [if_pos (hex_good l h), parse_hex l h]
theorem hex_pOut (l : List UInt8) (h : goodQ l = true) : hexL (pOut l) = l := by
  unfold pOut
  rw [if_pos h]
  exact hex_parse l ((goodQ_iff l).1 h).1 ((goodQ_iff l).1 h).2
end Go.Proofs.YtehbpibpbfomhaaDoor
