/- Regions that draw their order: every order does as the text's. Over any program; no condition. -/
import Derived.Test.YtbefhofmbiedgaaA20c
namespace Go.Proofs.Ytbefhofmbiedgaa
set_option linter.all false
open Go.RowKit

/-- What a slot holds where the operations of D are done. -/
def slotD (X : Nat → AV) (dst : Nat → Option Nat) (base : Nat → AV) (D : Nat → Bool) : Nat → Nat → AV
  | 0, t => base t
  | n + 1, t => if D n = true ∧ dst n = some t then X n else slotD X dst base D n t
def frD (X : Nat → AV) (dst : Nat → Option Nat) (base : List (Nat × AV)) (D : Nat → Bool) : Nat → List (Nat × AV)
  | 0 => base
  | n + 1 => if D n = true then match dst n with
    | some t => (t, X n) :: frD X dst base D n
    | none => frD X dst base D n else frD X dst base D n
def hposD (isH : Nat → Bool) (D : Nat → Bool) : Nat → Nat
  | 0 => 0
  | n + 1 => if D n = true ∧ isH n = true then n + 1 else hposD isH D n
section
variable {X : Nat → AV} {dst : Nat → Option Nat} {D : Nat → Bool}
theorem frD_lk {base : List (Nat × AV)} : ∀ (n t : Nat), lk (frD X dst base D n) t = slotD X dst (lk base) D n t := by
  intro n
  induction n with
  | zero => intro t; rfl
  | succ n ih =>
    intro t
    simp only [frD, slotD]
    cases hD : D n with
    | false => simp [ih]
    | true =>
      simp only [if_true, true_and]
      cases hd : dst n with
      | none => simp [ih]
      | some u => simp only [lk, Option.some.injEq, ih]
theorem slotD_in {base : Nat → AV} {n t k : Nat} (hu : ∀ i j, i < n → j < n → dst i = some t → dst j = some t → i = j) (hk : k < n) (hD : D k = true) (hd : dst k = some t) : slotD X dst base D n t = X k := by
  induction n with
  | zero => omega
  | succ n ih =>
    simp only [slotD]
    by_cases h : D n = true ∧ dst n = some t
    · rw [if_pos h, hu n k (by omega) hk h.2 hd]
    · rw [if_neg h]
      have : k ≠ n := by rintro rfl; exact h ⟨hD, hd⟩
      exact ih (fun i j hi hj => hu i j (by omega) (by omega)) (by omega)
theorem slotD_out {base : Nat → AV} {n t : Nat} (h : ∀ k, k < n → D k = true → dst k ≠ some t) : slotD X dst base D n t = base t := by
  induction n with
  | zero => rfl
  | succ n ih =>
    simp only [slotD]
    rw [if_neg (fun hh => h n (by omega) hh.1 hh.2)]
    exact ih fun k hk => h k (by omega)
/-- One operation more. -/
theorem slotD_put {base : Nat → AV} {n i : Nat} (hi : i < n) (hu : ∀ a b t, a < n → b < n → dst a = some t → dst b = some t → a = b) (hD : D i = false) (t : Nat) :
    slotD X dst base (fun k => if k = i then true else D k) n t = if dst i = some t then X i else slotD X dst base D n t := by
  by_cases h : dst i = some t
  · rw [if_pos h]
    exact slotD_in (fun a b ha hb => hu a b t ha hb) hi (by simp) h
  · rw [if_neg h]
    have gen : ∀ m, slotD X dst base (fun k => if k = i then true else D k) m t = slotD X dst base D m t := by
      intro m
      induction m with
      | zero => rfl
      | succ m ih =>
        simp only [slotD, ih]
        by_cases e : m = i
        · subst e; rw [if_neg (fun hh => h hh.2), if_neg (fun hh => h hh.2)]
        · simp only [if_neg e]
    exact gen n
theorem hposD_le {isH : Nat → Bool} : ∀ n, hposD isH D n ≤ n := by
  intro n
  induction n with
  | zero => exact Nat.le_refl _
  | succ n ih => simp only [hposD]; split <;> omega
/-- Operations of D that may make memory lie below it. -/
theorem hposD_gt {isH : Nat → Bool} : ∀ {n k : Nat}, k < n → D k = true → isH k = true → k < hposD isH D n := by
  intro n
  induction n with
  | zero => intro k h; omega
  | succ n ih =>
    intro k hk hD hH
    simp only [hposD]
    split
    · omega
    · rename_i h
      have : k ≠ n := by rintro rfl; exact h ⟨hD, hH⟩
      exact ih (by omega) hD hH
/-- The last of them. -/
theorem hposD_last {isH : Nat → Bool} : ∀ {n : Nat}, hposD isH D n = 0 ∨ ∃ m, m < n ∧ hposD isH D n = m + 1 ∧ D m = true ∧ isH m = true := by
  intro n
  induction n with
  | zero => exact .inl rfl
  | succ n ih =>
    simp only [hposD]
    split
    · rename_i h; exact .inr ⟨n, by omega, rfl, h.1, h.2⟩
    · rcases ih with h | ⟨m, h1, h2⟩
      · exact .inl h
      · exact .inr ⟨m, by omega, h2⟩
end

section
variable {P : Program} {Φ : Phi} {F : Nat → Prop} {w0 w : World} {S0 S : Nat → Prop} {ρ0 ρ : Rho} {N : Nat} {ds : List Deferred} {s0 : St} {a : Act} {hid : Hid1} {l : List AOper} {ops : Array Oper}

/-- The value of an operation in the text's run. -/
def valI (Φ : Phi) (hid : Hid1) (l : List AOper) (s0 : St) (i : Nat) : AV :=
  match resD Φ (hid.getD i (0, false)) (l.getD i dflO) ((stI Φ hid l s0 i).2 ++ [(stI Φ hid l s0 i).1.hp.length]) (stI Φ hid l s0 i).1 with
  | some (x, _, _) => x
  | none => .top
theorem stI_succ {i : Nat} {x : AV} {hp : List AObj} {p : Prop} (h : resD Φ (hid.getD i (0, false)) (l.getD i dflO) ((stI Φ hid l s0 i).2 ++ [(stI Φ hid l s0 i).1.hp.length]) (stI Φ hid l s0 i).1 = some (x, hp, p)) :
    (stI Φ hid l s0 (i + 1)).1 = (pinO (l.getD i dflO) (stI Φ hid l s0 i).1).put (l.getD i dflO).dst x hp ∧ valI Φ hid l s0 i = x := by
  refine ⟨by simp only [stI, h], by unfold valI; rw [h]⟩
theorem put_hp (s : St) (d : Option Nat) (x : AV) (hp : List AObj) : (s.put d x hp).hp = hp := by cases d <;> rfl
theorem put_lk (s : St) (d : Option Nat) (x : AV) (hp : List AObj) (t : Nat) : lk (s.put d x hp).fr t = if d = some t then x else lk s.fr t := by
  cases d with
  | none => simp [St.put]
  | some u => simp only [St.put, lk, Option.some.injEq]

structure Drawn (P : Program) (Φ : Phi) (N : Nat) (ops : Array Oper) (hid : Hid1) (l : List AOper) (s0 : St) : Prop where
  len : l.length = ops.size
  mt : ∀ (i : Nat) (o : Oper), ops[i]? = some o → MtO P N ops o (l.getD i dflO)
  edge : ∀ (i : Nat) (o : Oper), ops[i]? = some o → ∀ k ∈ esO o, k < i
  uniq : ∀ i j t, i < ops.size → j < ops.size → (l.getD i dflO).dst = some t → (l.getD j dflO).dst = some t → i = j
  slot : ∀ i k t, i < ops.size → k < ops.size → k ≠ i → t ∈ (l.getD i dflO).rd → (l.getD k dflO).dst = some t → (k < i ∧ ((ancGo ops.toList []).getD i []).contains k = true) ∨ (i < k ∧ ((ancGo ops.toList []).getD k []).contains i = true)
  tot : ∀ i k, i < ops.size → k < i → (l.getD i dflO).op.isH = true → (l.getD k dflO).op.isH = true → ((ancGo ops.toList []).getD i []).contains k = true
  bar : ∀ i, i < ops.size → (hid.getD i (0, false)).2 = true → (∀ k, k < i → ((ancGo ops.toList []).getD i []).contains k = true) ∧ (∀ k, i < k → k < ops.size → ((ancGo ops.toList []).getD k []).contains i = true)
  pos : ∀ i, i < ops.size → (hid.getD i (0, false)).1 ≤ i
  posA : ∀ i k, i < ops.size → k < (hid.getD i (0, false)).1 → (l.getD k dflO).op.isH = true → ((ancGo ops.toList []).getD i []).contains k = true
  posB : ∀ i k, i < ops.size → k < i → (hid.getD i (0, false)).1 ≤ k → (l.getD k dflO).op.isH = true → (hid.getD k (0, false)).2 = false
  res : ∀ i, i < ops.size → ∃ x hp p, resD Φ (hid.getD i (0, false)) (l.getD i dflO) ((stI Φ hid l s0 i).2 ++ [(stI Φ hid l s0 i).1.hp.length]) (stI Φ hid l s0 i).1 = some (x, hp, p) ∧ p

theorem all2_get {α β : Type} {R : α → β → Prop} : ∀ {l : List α} {m : List β}, All2 R l m → l.length = m.length ∧ ∀ (i : Nat) (x : α) (y : β), l[i]? = some x → m[i]? = some y → R x y := by
  intro l
  induction l with
  | nil => intro m h; cases m with | nil => exact ⟨rfl, fun i x y h => by simp at h⟩ | cons => exact h.elim
  | cons a l ih =>
    intro m h
    cases m with
    | nil => exact h.elim
    | cons b m =>
      obtain ⟨h1, h2⟩ := ih h.2
      refine ⟨by simp [h1], fun i x y hx hy => ?_⟩
      cases i with
      | zero => simp only [List.getElem?_cons_zero, Option.some.injEq] at hx hy; subst hx hy; exact h.1
      | succ i => exact h2 i x y (by simpa using hx) (by simpa using hy)
theorem drawn_of (hm : All2 (MtO P N ops) ops.toList l) (hd : drawB ops hid l = true) {K : St → Prop} (h : drawQ Φ hid l K s0) : Drawn P Φ N ops hid l s0 ∧ K (stI Φ hid l s0 ops.size).1 := by
  simp only [drawB, Bool.and_eq_true, beq_iff_eq] at hd
  obtain ⟨⟨⟨⟨⟨⟨⟨d1, d2⟩, d3⟩, d4⟩, d5⟩, d6⟩, d7⟩, d8⟩ := hd
  have hlen : hid.length = l.length := by rw [d1, d2]
  obtain ⟨r1, r2⟩ := arunD_run Φ hid l s0 hlen l.length 0 (by omega) h
  have lg : ∀ {i : Nat}, i < ops.size → l[i]? = some (l.getD i dflO) := fun {i} hi => by rw [List.getD_eq_getElem?_getD, List.getElem?_eq_getElem (by omega)]; rfl
  obtain ⟨m1, m2⟩ := all2_get hm
  refine ⟨⟨d1, fun i o ho => ?_, fun i o ho k hk => ?_, fun i j t hi hj h1 h2 => ?_, fun i k t hi hk hne ht hkd => ?_, fun i k hi hk h1 h2 => ?_, fun i hi hb => ?_, fun i hi => ?_, fun i k hi hk hH => ?_, fun i k hi hki hk hH => ?_, fun i hi => ?_⟩, by rw [← d1]; exact r2⟩
  · have hi := (Array.getElem?_eq_some_iff.1 ho).1
    exact m2 i o _ (by rw [Array.getElem?_toList]; exact ho) (lg hi)
  · have hi := (Array.getElem?_eq_some_iff.1 ho).1
    have := ltAll_ok d3 i hi
    rw [ho] at this
    simp only [Option.map_some, Option.getD_some, List.all_eq_true, decide_eq_true_eq] at this
    exact this k hk
  · have := ltAll_ok (ltAll_ok d4 i hi) j hj
    simp only [lg hi, lg hj, Option.bind_some, h1, h2, Option.isNone_some, Bool.or_false, bne_self_eq_false, beq_iff_eq] at this
    exact this
  · have h5 := ltAll_ok d5 i hi
    rw [lg hi] at h5
    simp only [Option.map_some, Option.getD_some, List.all_eq_true] at h5
    have := ltAll_ok (h5 t ht) k hk
    simp only [lg hk, Option.bind_some, hkd, bne_self_eq_false, Bool.or_false, Bool.or_eq_true, beq_iff_eq, hne, false_or] at this
    split at this
    · rename_i hlt; exact .inl ⟨hlt, this⟩
    · exact .inr ⟨by omega, this⟩
  · have := ltAll_ok (ltAll_ok d6 i hi) k hk
    simp only [lg hi, lg (show k < ops.size by omega), Option.map_some, Option.getD_some, h1, h2, Bool.and_self, Bool.not_true, Bool.false_or] at this
    exact this
  · have := ltAll_ok d7 i hi
    simp only [hb, Bool.not_true, Bool.false_or, Bool.and_eq_true] at this
    refine ⟨fun k hk => ltAll_ok this.1 k hk, fun k hk hkn => ?_⟩
    have h7 := ltAll_ok this.2 k hkn
    simp only [Bool.or_eq_true, decide_eq_true_eq] at h7
    exact h7.resolve_left (by omega)
  · have := ltAll_ok d8 i hi
    simp only [Bool.and_eq_true, decide_eq_true_eq] at this
    exact this.1.1
  · have := ltAll_ok d8 i hi
    simp only [Bool.and_eq_true, decide_eq_true_eq] at this
    have h8 := ltAll_ok this.1.2 k hk
    have hp := this.1.1
    simp only [lg (show k < ops.size by omega), Option.map_some, Option.getD_some, hH, Bool.not_true, Bool.false_or] at h8
    exact h8
  · have := ltAll_ok d8 i hi
    simp only [Bool.and_eq_true, decide_eq_true_eq] at this
    have h8 := ltAll_ok this.2 k hki
    simp only [lg (show k < ops.size by omega), Option.map_some, Option.getD_some, hH, Bool.not_true, Bool.or_false, Bool.or_eq_true, decide_eq_true_eq, Bool.not_eq_true'] at h8
    exact h8.resolve_left (by omega)
  · exact r1 i (Nat.zero_le _) (by omega)
end
end Go.Proofs.Ytbefhofmbiedgaa
