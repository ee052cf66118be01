/- Numbers that are written and read again, as plain lists. -/
import Derived.Test.YtaglhfgobkgnaaaDoorReadLaw
namespace Go.Proofs.YtaglhfgobkgnaaaDoor
set_option linter.all false
open Go.RowKit
theorem sevGo_inv {step : Nat → Nat → Nat → Bool × Nat} {P : Nat → Nat → Prop} (hP : ∀ s i k : Nat, s < 128 → i < 12 → P k i → (step s i k).1 = true → P (step s i k).2 (i + 1)) : ∀ (l : List UInt8) (k i : Nat), P k i → i ≤ 12 → (sevGo step k i l).1.2 = 0 →
    ∃ j : Nat, j ≤ l.length ∧ (sevGo step k i l).1.1 = ((i + j : Nat) : Int) ∧ P (sevGo step k i l).2 (i + j) := by
  intro l
  induction l with
  | nil => intro k i _ _ h; simp [sevGo] at h
  | cons c r ih =>
    intro k i hk hi h
    by_cases h12 : i = 12
    · subst h12; rw [sevGo_12] at h; simp at h
    · cases hs : (step (c.toNat % 128) i k).1 with
      | false => rw [sevGo_f h12 hs] at h; simp at h
      | true =>
        have hk' := hP _ i k (by omega) (by omega) hk hs
        by_cases hlo : c.toNat < 128
        · rw [sevGo_end h12 hs hlo]; exact ⟨1, by simp, rfl, hk'⟩
        · rw [sevGo_on h12 hs (by omega)] at h ⊢
          obtain ⟨j, j1, j2, j3⟩ := ih _ (i + 1) hk' (by omega) h
          exact ⟨j + 1, by simp; omega, by rw [j2]; congr 1; omega, by rw [show i + (j + 1) = i + 1 + j by omega]; exact j3⟩
theorem stepLeb_keep {s i k : Nat} (hs : s < 128) (hi : i < 12) (h : okLeb k i) (ht : (stepLeb s i k).1 = true) : okLeb (stepLeb s i k).2 (i + 1) := by
  unfold stepLeb at ht ⊢
  by_cases hb : badLeb s i = true
  · rw [if_pos hb] at ht; cases ht
  · rw [if_neg hb]; exact okLeb_step hi hs h (by simpa using hb)
theorem okLeb_0 : okLeb 0 0 := ⟨by decide, by decide⟩
theorem lebR_cases (l : List UInt8) : (∃ k j : Nat, lebR l = ((k : Int), (j : Int), 0) ∧ j ≤ l.length ∧ k < 4611686018427387904) ∨ (∃ e : Int, e ≠ 0 ∧ lebR l = (0, 0, e)) := by
  by_cases he : (sevGo stepLeb 0 0 l).1.2 = 0
  · obtain ⟨j, j1, j2, j3⟩ := sevGo_inv (P := okLeb) (fun s i k hs hi hk ht => stepLeb_keep hs hi hk ht) l 0 0 okLeb_0 (by omega) he
    refine .inl ⟨_, j, ?_, j1, j3.2⟩
    unfold lebR; rw [if_pos he, j2]; simp
  · exact .inr ⟨_, he, if_neg he⟩
theorem leb_back (n : Nat) (h : n < 4611686018427387904) (r : List UInt8) : lebR (lebL n ++ r) = ((n : Int), ((lebL n).length : Int), 0) := by
  have := leb_read n n 0 0 r (Nat.le_refl _) (by simpa using h) (.inl rfl)
  unfold lebR; rw [this]; simp
theorem leb_short (n : Nat) (h : n < 4611686018427387904) : lebR (lebL n).dropLast = (0, 0, 3) := by
  have := leb_cut n n 0 0 (Nat.le_refl _) (by simpa using h) (.inl rfl)
  unfold lebR; rw [if_neg (by rw [this]; simp), this]
/-! ### Offsets -/
theorem ofs_run : ∀ (N m : Nat), m ≤ N → m ≤ 36028797018963968 → ∀ r : List UInt8, sevGo stepOfs 0 0 ((ofsR m).reverse ++ r) = sevGo stepOfs (m - 1) (ofsR m).length r ∧ (0 < (ofsR m).length ↔ 0 < m) := by
  intro N
  induction N with
  | zero =>
    intro m h1 h2 r
    obtain rfl : m = 0 := by omega
    rw [ofsR_zero]; simp
  | succ N ih =>
    intro m h1 h2 r
    by_cases h0 : m = 0
    · subst h0; rw [ofsR_zero]; simp
    · have hl := ofsR_pow 8 ((m - 1) / 128) (by omega)
      have hm : (if 0 < (ofsR ((m - 1) / 128)).length then (m - 1) / 128 - 1 + 1 else (m - 1) / 128 - 1) = (m - 1) / 128 := by
        have := (ih ((m - 1) / 128) (by omega) (by omega) r).2
        split
        · have := this.1 (by assumption); omega
        · have : ¬ 0 < (m - 1) / 128 := fun h => by have := this.2 h; omega
          omega
      have e : (o8 ((m - 1) % 128 + 128)).toNat % 128 = (m - 1) % 128 := by rw [o8_toNat]; omega
      have hs : stepOfs ((o8 ((m - 1) % 128 + 128)).toNat % 128) (ofsR ((m - 1) / 128)).length ((m - 1) / 128 - 1) = (true, m - 1) := by
        unfold stepOfs; rw [hm, e, if_neg (by omega)]; simp only [Prod.mk.injEq, true_and]; omega
      rw [ofsR_pos (by omega), List.reverse_cons, List.append_assoc, (ih ((m - 1) / 128) (by omega) (by omega) _).1, List.singleton_append, sevGo_on (by omega) (by rw [hs]) (by rw [o8_toNat]; omega), hs]
      simp; omega
theorem ofs_step (n : Nat) (h : n < 4611686018427387904) : (ofsR (n / 128)).length ≤ 8 ∧ stepOfs ((o8 (n % 128)).toNat % 128) (ofsR (n / 128)).length (n / 128 - 1) = (true, n) := by
  have hl := ofsR_pow 8 (n / 128) (by omega)
  refine ⟨hl, ?_⟩
  have hm : (if 0 < (ofsR (n / 128)).length then n / 128 - 1 + 1 else n / 128 - 1) = n / 128 := by
    have := (ofs_run _ (n / 128) (Nat.le_refl _) (by omega) []).2
    split
    · have := this.1 (by assumption); omega
    · have : ¬ 0 < n / 128 := fun h => by have := this.2 h; omega
      omega
  have e : (o8 (n % 128)).toNat % 128 = n % 128 := by rw [o8_toNat]; omega
  unfold stepOfs; rw [hm, e, if_neg (by omega)]; simp only [Prod.mk.injEq, true_and]; omega
theorem ofs_read (n : Nat) (h : n < 4611686018427387904) (r : List UInt8) : ofsRd (ofsL n ++ r) = ((n : Int), ((ofsL n).length : Int), 0) := by
  obtain ⟨hl, hs⟩ := ofs_step n h
  have e : sevGo stepOfs 0 0 (ofsL n ++ r) = (((((ofsR (n / 128)).length + 1 : Nat) : Int), (0 : Int)), n) := by
    rw [ofsL_eq, List.append_assoc, (ofs_run _ (n / 128) (Nat.le_refl _) (by omega) _).1, List.singleton_append, sevGo_end (by omega) (by rw [hs]) (by rw [o8_toNat]; omega), hs]
  have e2 : (ofsL n).length = (ofsR (n / 128)).length + 1 := by rw [ofsL_eq]; simp
  unfold ofsRd; rw [e, e2]; simp
theorem ofs_short (n : Nat) (h : n < 4611686018427387904) : ofsRd (ofsL n).dropLast = (0, 0, 3) := by
  have e : (ofsL n).dropLast = (ofsR (n / 128)).reverse ++ [] := by rw [ofsL_eq, List.append_nil]; simp
  have e2 : (sevGo stepOfs 0 0 (ofsL n).dropLast).1 = (0, 3) := by rw [e, (ofs_run _ (n / 128) (Nat.le_refl _) (by omega) _).1]; rfl
  unfold ofsRd; rw [if_neg (by rw [e2]; simp), e2]
/-! ### Heads -/
noncomputable def headRd : List UInt8 → Int × Int × Int × Int
  | [] => (0, 0, 0, 3)
  | c :: r => if c.toNat < 128 then (((c.toNat / 16 % 8 : Nat) : Int), ((c.toNat % 16 : Nat) : Int), 1, 0) else
    if (lebR r).2.2 ≠ 0 then (0, 0, 0, (lebR r).2.2) else
    if 288230376151711744 ≤ (lebR r).1 then (0, 0, 0, 2) else (((c.toNat / 16 % 8 : Nat) : Int), (lebR r).1 * 16 + ((c.toNat % 16 : Nat) : Int), (lebR r).2.1 + 1, 0)
theorem headRd_cons (c : UInt8) (r : List UInt8) : headRd (c :: r) = if c.toNat < 128 then (((c.toNat / 16 % 8 : Nat) : Int), ((c.toNat % 16 : Nat) : Int), 1, 0) else
    if (lebR r).2.2 ≠ 0 then (0, 0, 0, (lebR r).2.2) else
    if 288230376151711744 ≤ (lebR r).1 then (0, 0, 0, 2) else (((c.toNat / 16 % 8 : Nat) : Int), (lebR r).1 * 16 + ((c.toNat % 16 : Nat) : Int), (lebR r).2.1 + 1, 0) := rfl
theorem headRd_lo {c : UInt8} {r : List UInt8} (h : c.toNat < 128) : headRd (c :: r) = (((c.toNat / 16 % 8 : Nat) : Int), ((c.toNat % 16 : Nat) : Int), 1, 0) := if_pos h
theorem headRd_err {c : UInt8} {r : List UInt8} {e : Int} (h : ¬ c.toNat < 128) (he : e ≠ 0) (hr : lebR r = (0, 0, e)) : headRd (c :: r) = (0, 0, 0, e) := by
  rw [headRd_cons, if_neg h, hr]; exact if_pos he
theorem headRd_big {c : UInt8} {r : List UInt8} {k j : Nat} (h : ¬ c.toNat < 128) (hk : 288230376151711744 ≤ k) (hr : lebR r = ((k : Int), (j : Int), 0)) : headRd (c :: r) = (0, 0, 0, 2) := by
  rw [headRd_cons, if_neg h, hr, if_neg (by simp)]; exact if_pos (by show (288230376151711744 : Int) ≤ (k : Int); omega)
theorem headRd_ok {c : UInt8} {r : List UInt8} {k j : Nat} (h : ¬ c.toNat < 128) (hk : k < 288230376151711744) (hr : lebR r = ((k : Int), (j : Int), 0)) : headRd (c :: r) = (((c.toNat / 16 % 8 : Nat) : Int), ((k * 16 + c.toNat % 16 : Nat) : Int), (j : Int) + 1, 0) := by
  rw [headRd_cons, if_neg h, hr, if_neg (by simp)]
  refine (if_neg (by show ¬ (288230376151711744 : Int) ≤ (k : Int); omega)).trans ?_
  simp only [Prod.mk.injEq, true_and, and_true]; omega
theorem head_back (k n : Nat) (hk : k < 8) (h : n < 4611686018427387904) (r : List UInt8) : headRd (headL k n ++ r) = ((k : Int), (n : Int), ((headL k n).length : Int), 0) := by
  by_cases hn : n < 16
  · have e : headL k n = [o8 (16 * k + n)] := if_pos hn
    have e2 : (o8 (16 * k + n)).toNat = 16 * k + n := by rw [o8_toNat]; omega
    rw [e, List.singleton_append, headRd_lo (by rw [e2]; omega), e2, show (16 * k + n) / 16 % 8 = k by omega, show (16 * k + n) % 16 = n by omega]; rfl
  · have e : headL k n = o8 (128 + 16 * k + n % 16) :: lebL (n / 16) := if_neg hn
    have e2 : (o8 (128 + 16 * k + n % 16)).toNat = 128 + 16 * k + n % 16 := by rw [o8_toNat]; omega
    rw [e, List.cons_append, headRd_ok (by rw [e2]; omega) (by omega) (leb_back (n / 16) (by omega) r), e2, show (128 + 16 * k + n % 16) / 16 % 8 = k by omega, show (n / 16 * 16 + (128 + 16 * k + n % 16) % 16) = n by omega]
    simp
theorem head_short (k n : Nat) (hk : k < 8) (h : n < 4611686018427387904) : headRd (headL k n).dropLast = (0, 0, 0, 3) := by
  by_cases hn : n < 16
  · have e : headL k n = [o8 (16 * k + n)] := if_pos hn
    rw [e]; rfl
  · have e : headL k n = o8 (128 + 16 * k + n % 16) :: lebL (n / 16) := if_neg hn
    have e2 : (o8 (128 + 16 * k + n % 16)).toNat = 128 + 16 * k + n % 16 := by rw [o8_toNat]; omega
    have hp := lebL_pos (n / 16)
    rw [e, List.dropLast_cons_of_ne_nil (List.length_pos_iff.1 hp), headRd_err (by rw [e2]; omega) (by decide) (leb_short (n / 16) (by omega))]
end Go.Proofs.YtaglhfgobkgnaaaDoor
