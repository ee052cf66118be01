/- Paths, plain: parts between slashes, what a path may be. No program in sight. -/
import Derived.Lib.SplitLaws
import Derived.Lib.IndexAny
import Derived.Lib.IndexMore
namespace Go.Proofs.YtehbpibpbfomhaaDoor
set_option linter.all false
open Go.Lib (index indexByte splitK count countB splitB cut indexAny)
/-- A text cut at each c. -/
def psl (c : UInt8) : List UInt8 → List (List UInt8)
  | [] => [[]]
  | b :: r => if b = c then [] :: psl c r else match psl c r with
    | h :: t => (b :: h) :: t
    | [] => [[b]]
theorem psl_ne (c : UInt8) : ∀ l, psl c l ≠ []
  | [] => by simp [psl]
  | b :: r => by
    unfold psl
    split
    · simp
    · split <;> simp
theorem psl_cons_ne {c b : UInt8} (h : b ≠ c) (r : List UInt8) : ∃ x t, psl c r = x :: t ∧ psl c (b :: r) = (b :: x) :: t := by
  cases hp : psl c r with
  | nil => exact absurd hp (psl_ne c r)
  | cons x t => exact ⟨x, t, rfl, by rw [psl, if_neg h, hp]⟩
theorem psl_cons_eq (c : UInt8) (r : List UInt8) : psl c (c :: r) = [] :: psl c r := by rw [psl, if_pos rfl]
theorem splitK_psl (c : UInt8) : ∀ l : List UInt8, splitK [c] 0 (count l [c]) l = psl c l
  | [] => by
    rw [Go.Lib.count_miss (by simp [index])]; rfl
  | b :: l => by
    have ih := splitK_psl c l
    by_cases h : b = c
    · subst h
      have hix : index (b :: l) [b] = 0 := by rw [index]; simp [List.isPrefixOf]
      rw [Go.Lib.count_cons_eq, Nat.add_comm, splitK, hix, if_neg (by decide), psl_cons_eq, ← ih]
      simp
    · obtain ⟨x, t, e1, e2⟩ := psl_cons_ne h l
      have hp : ([c] : List UInt8).isPrefixOf (b :: l) = false := by simp [List.isPrefixOf, Ne.symm h]
      have hix : index (b :: l) [c] = if index l [c] == -1 then -1 else index l [c] + 1 := by rw [index, hp]; simp
      rw [Go.Lib.count_cons_ne b c l h, e2]
      rw [e1] at ih
      by_cases hm : index l [c] = -1
      · rw [Go.Lib.count_miss hm] at ih ⊢
        simp only [splitK, List.cons.injEq] at ih ⊢
        exact ⟨⟨trivial, ih.1⟩, ih.2⟩
      · have hge := Go.Lib.index_ge l [c]
        obtain ⟨j, hj⟩ : ∃ j : Nat, index l [c] = j := ⟨(index l [c]).toNat, by omega⟩
        rw [Go.Lib.count_hit (by simp) hj, Nat.add_comm] at ih ⊢
        have hix' : index (b :: l) [c] = ((j + 1 : Nat) : Int) := by rw [hix, if_neg (fun e => hm (beq_iff_eq.1 e)), hj]; omega
        rw [splitK, hj, if_neg (fun e => hm (by rw [hj]; exact beq_iff_eq.1 e))] at ih
        rw [splitK, hix', if_neg (fun e => by have := beq_iff_eq.1 e; omega)]
        simp only [List.length_cons, List.length_nil, Nat.zero_add, Nat.add_zero, Int.toNat_natCast, List.cons.injEq, List.take_succ_cons, List.drop_succ_cons] at ih ⊢
        exact ⟨⟨trivial, ih.1⟩, ih.2⟩
theorem psl_join_len (c : UInt8) : ∀ l : List UInt8, (psl c l).length ≤ l.length + 1
  | [] => by simp [psl]
  | b :: l => by
    have ih := psl_join_len c l
    by_cases h : b = c
    · subst h; rw [psl_cons_eq]; simp; omega
    · obtain ⟨x, t, e1, e2⟩ := psl_cons_ne h l
      rw [e2]; rw [e1] at ih; simp at ih ⊢; omega
/-- With what stands ahead of the first part. -/
def pre1 (acc : List UInt8) : List (List UInt8) → List (List UInt8)
  | [] => [acc]
  | h :: t => (acc ++ h) :: t
theorem pre1_nil (l : List (List UInt8)) (h : l ≠ []) : pre1 [] l = l := by cases l <;> simp_all [pre1]
theorem pre1_psl_eq (c : UInt8) (acc r : List UInt8) : pre1 acc (psl c (c :: r)) = acc :: pre1 [] (psl c r) := by
  rw [psl_cons_eq, pre1_nil _ (psl_ne c r)]; simp [pre1]
theorem pre1_psl_ne {c b : UInt8} (h : b ≠ c) (acc r : List UInt8) : pre1 acc (psl c (b :: r)) = pre1 (acc ++ [b]) (psl c r) := by
  obtain ⟨x, t, e1, e2⟩ := psl_cons_ne h r
  rw [e1, e2]; simp [pre1]
/-- May a part not be so? -/
def badP (q : List UInt8) : Bool := decide (q = []) || decide (q = [46]) || decide (q = [46, 46])
def ctlB (c : UInt8) : Bool := decide (c = 0) || decide (c = 10) || decide (c = 13)
def rightP (p : List UInt8) : Bool := !decide (255 < p.length) && !p.any ctlB && !(psl 47 p).any badP
theorem indexAny_nn (chars : List UInt8) : ∀ s : List UInt8, (decide (0 ≤ indexAny s chars)) = s.any fun b => chars.contains b
  | [] => rfl
  | b :: l => by
    have ih := indexAny_nn chars l
    have hg := Go.Lib.indexAny_ge chars l
    have hd : indexAny (b :: l) chars = if chars.contains b then 0 else if indexAny l chars == -1 then -1 else indexAny l chars + 1 := by rw [indexAny]
    rw [List.any_cons, ← ih, hd]
    cases hb : chars.contains b with
    | true => simp
    | false =>
      simp only [Bool.false_or, Bool.false_eq_true, if_false]
      by_cases h : indexAny l chars = -1
      · rw [if_pos (beq_iff_eq.2 h), h]
      · rw [if_neg (by simpa using h)]
        rw [Bool.eq_iff_iff]; simp; omega
theorem ctl_any (s : List UInt8) : (s.any fun b => ([0, 10, 13] : List UInt8).contains b) = s.any ctlB := by
  congr 1
  funext b
  rw [Bool.eq_iff_iff]
  simp [ctlB, or_assoc]
theorem rightP_facts {p : List UInt8} (h : rightP p = true) : p.length ≤ 255 ∧ (∀ c ∈ p, c ≠ 0 ∧ c ≠ 10 ∧ c ≠ 13) ∧ p ≠ [] := by
  unfold rightP at h
  simp only [Bool.and_eq_true, Bool.not_eq_true', decide_eq_false_iff_not, Nat.not_lt, List.any_eq_false] at h
  refine ⟨h.1.1, fun c hc => ?_, ?_⟩
  · have := h.1.2 c hc
    simp [ctlB] at this
    exact ⟨this.1.1, this.1.2, this.2⟩
  · rintro rfl
    exact absurd (h.2 [] (by simp [psl])) (by decide)
end Go.Proofs.YtehbpibpbfomhaaDoor
