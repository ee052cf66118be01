/- A call on abstract values: arguments borrowed or lent, the contract, the heap behind it. Over any program; no condition. -/
import Derived.Test.YtbefhofmbiedgaaA15
namespace Go.Proofs.Ytbefhofmbiedgaa
set_option linter.all false
open Go.RowKit

def posOf : List Nat → Nat → Option Nat
  | [], _ => none
  | k :: r, i => if k = i then some 0 else (posOf r i).map (· + 1)
theorem posOf_ok : ∀ {l : List Nat} {i j : Nat}, posOf l i = some j → l[j]? = some i := by
  intro l
  induction l with
  | nil => intro i j h; cases h
  | cons k r ih =>
    intro i j h
    simp only [posOf] at h
    split at h
    · rename_i e; injection h with h; subst h e; rfl
    · obtain ⟨m, hm, rfl⟩ := Option.map_eq_some_iff.1 h
      simpa using ih hm
theorem posOf_none : ∀ {l : List Nat} {i : Nat}, posOf l i = none → ∀ j : Nat, l[j]? ≠ some i := by
  intro l
  induction l with
  | nil => intro i _ j h; simp at h
  | cons k r ih =>
    intro i h j hj
    simp only [posOf] at h
    split at h
    · cases h
    · rename_i hne
      simp only [Option.map_eq_none_iff] at h
      cases j with
      | zero => simp only [List.getElem?_cons_zero, Option.some.injEq] at hj; exact hne hj
      | succ j => exact ih h j (by simpa using hj)
def nodupB : List Nat → Bool
  | [] => true
  | x :: r => !r.contains x && nodupB r
theorem nodupB_ok : ∀ {l : List Nat}, nodupB l = true → ∀ i j k : Nat, l[i]? = some k → l[j]? = some k → i = j := by
  intro l
  induction l with
  | nil => intro _ i j k h; simp at h
  | cons x r ih =>
    intro h i j k hi hj
    simp only [nodupB, Bool.and_eq_true, Bool.not_eq_true', List.contains_eq_mem, decide_eq_false_iff_not] at h
    cases i with
    | zero =>
      cases j with
      | zero => rfl
      | succ j =>
        simp only [List.getElem?_cons_zero, Option.some.injEq] at hi; subst hi
        exact absurd (List.mem_of_getElem? (by simpa using hj)) h.1
    | succ i =>
      cases j with
      | zero =>
        simp only [List.getElem?_cons_zero, Option.some.injEq] at hj; subst hj
        exact absurd (List.mem_of_getElem? (by simpa using hi)) h.1
      | succ j => rw [ih h.2 i j k (by simpa using hi) (by simpa using hj)]

/-- A row of the caller's own, read only. -/
def bor0 (hp : List AObj) : AV → Option (AV × List Nat)
  | .own id v => match hp[id]? with
    | some (.row _ sz v' xs) => if v = v' ∧ 0 < sz then some (.sl sz xs, [id]) else none
    | some (.froz sz v' xs) => if v = v' ∧ 0 < sz then some (.sl sz xs, []) else none
    | _ => none
  | .ownv id v i m => match hp[id]? with
    | some (.row _ sz v' xs) => if v = v' ∧ 0 < sz then some (.sl sz ((xs.drop i).take m), [id]) else none
    | some (.froz sz v' xs) => if v = v' ∧ 0 < sz then some (.sl sz ((xs.drop i).take m), []) else none
    | _ => none
  | .con u => if nilS u then some (.sl 1 [], []) else some (.con u, [])
  | x => some (x, [])
def bor1 (hp : List AObj) : AV → Option (AV × List Nat)
  | .agg ps => (mapO (fun p => (bor0 hp p.2).map fun q => ((p.1, q.1), q.2)) ps).map fun l => (.agg (l.map (·.1)), (l.map (·.2)).flatten)
  | x => bor0 hp x
def bor (hp : List AObj) : List Bool → List AV → Option (List AV × List Nat)
  | _, [] => some ([], [])
  | true :: ms, x :: xs => match bor hp ms xs with
    | some (ys, l) => some (x :: ys, l)
    | none => none
  | false :: ms, x :: xs => match bor1 hp x, bor hp ms xs with
    | some (y, k), some (ys, l) => some (y :: ys, k ++ l)
    | _, _ => none
  | [], x :: xs => match bor1 hp x, bor hp [] xs with
    | some (y, k), some (ys, l) => some (y :: ys, k ++ l)
    | _, _ => none
/-- The blocks of rows that are borrowed. -/
def Brw (ρ : Rho) (hp : List AObj) (brw : List Nat) (b : Nat) : Prop := ∃ (id : Nat) (o : AObj), id ∈ brw ∧ hp[id]? = some o ∧ o.blk ρ id = some b
section
variable {P : Program} {F : Nat → Prop} {w0 w : World} {S Sc : Nat → Prop} {ρ : Rho} {hp : List AObj}
theorem Mem.sl {sz : Nat} {xs : List AV} {A : Option Addr} {n c : Nat} {us : List Value} (h : Mem w S sz xs A n c us) (hsz : 0 < sz) (hA : ∀ b, ablk A = some b → Sc b) (hS : ∀ b, S b → Sc b) : Vl w Sc ρ (.sl sz xs) (.slice A n c) := by
  have hn := h.len
  by_cases hx : xs = []
  · subst hx
    have : n = 0 := by simpa using hn
    subst this
    exact .inr ⟨_, .sl0 sz A c h.max, rfl⟩
  · have h0 : 0 < us.length := by rw [h.ulen]; exact Nat.mul_pos (List.length_pos_iff.2 hx) hsz
    obtain ⟨b, o, rfl, hc⟩ := h.cell h0
    rw [hn]
    exact .inr ⟨_, .sl sz xs us b o c (hA b rfl) (h.css.ext ⟨fun _ _ => rfl, hS, fun _ _ _ h => h⟩).cs h.ulen hc (by rw [← hn]; exact h.cap) h.max, rfl⟩
theorem Rw.blk_lt {e : TypeId} {L : Lc} {us : List Value} (_h : Rw w e L us) : True := trivial
theorem bor0_ok (H : ObsOk w S ρ hp) {x y : AV} {l brw : List Nat} {v : Value} (h : bor0 hp x = some (y, l)) (hl : ∀ i ∈ l, i ∈ brw) (hS : ∀ b, S b → Sc b) (hB : ∀ b, Brw ρ hp brw b → Sc b) (hv : Vl w S ρ x v) : Vl w Sc ρ y v := by
  have same : ∀ {x y : AV} {l : List Nat}, some (x, ([] : List Nat)) = some (y, l) → Vl w S ρ x v → Vl w Sc ρ y v := by
    intro x y l e hv
    injection e with e; injection e with e1 e2; subst e1
    exact hv.ext ⟨fun _ _ => rfl, hS, fun _ _ _ h => h⟩
  cases x <;> simp only [bor0] at h
  case own id ver =>
    split at h
    · rename_i e sz v' xs ho
      split at h
      · rename_i e1; obtain ⟨rfl, hsz⟩ := e1; injection h with h; injection h with e1 e2; subst e1 e2
        obtain ⟨L, hL, rfl⟩ := hv.own
        obtain ⟨L', us, k1, k2, k3, k4, k5, k6⟩ := H _ _ ho (by simp)
        rw [hL] at k1; injection k1 with k1; subst k1
        subst k3
        refine (k4.mem k2 k5).sl hsz (fun b hb => hB b ⟨id, _, hl id (by simp), ho, by simp [AObj.blk, hL, hb]⟩) hS
      · cases h
    · rename_i sz v' xs ho
      split at h
      · rename_i e1; obtain ⟨rfl, hsz⟩ := e1; injection h with h; injection h with e1 e2; subst e1 e2
        obtain ⟨L, hL, rfl⟩ := hv.own
        obtain ⟨L', k1, k2, k3, k4⟩ := H _ _ ho (by simp)
        rw [hL] at k1; injection k1 with k1; subst k1
        exact .inr ⟨_, k4.ext (fun _ _ => rfl) hS (fun _ _ _ h => by cases h), rfl⟩
      · cases h
    · cases h
  case ownv id ver i m =>
    split at h
    · rename_i e sz v' xs ho
      split at h
      · rename_i e1; obtain ⟨rfl, hsz⟩ := e1; injection h with h; injection h with e1 e2; subst e1 e2
        obtain ⟨A, n, c, us, hvs, hM⟩ := view_ok (sz := sz) (xs := (xs.drop i).take m) H (by simp [view, ho]) hv
        obtain ⟨L, A0, hL, hm, hA0, e⟩ := hv.ownv
        rw [e] at hvs ⊢
        injection hvs with e1 e2 e3
        subst e1 e2 e3
        rcases Nat.eq_zero_or_pos m with h0 | h0
        · subst h0
          rw [List.take_zero]
          exact .inr ⟨_, .sl0 sz A0 _ (by have := hM.max; omega), rfl⟩
        · refine hM.sl hsz (fun b hb => ?_) hS
          rw [hA0 (.inl h0), cutA_blk] at hb
          exact hB b ⟨id, _, hl id (by simp), ho, by simp [AObj.blk, hL, hb]⟩
      · cases h
    · rename_i sz v' xs ho
      split at h
      · rename_i e1; obtain ⟨rfl, hsz⟩ := e1; injection h with h; injection h with e1 e2; subst e1 e2
        obtain ⟨L, A0, hL, hm, hA0, rfl⟩ := hv.ownv
        obtain ⟨L', k1, k2, k3, k4⟩ := H _ _ ho (by simp)
        rw [hL] at k1; injection k1 with k1; subst k1
        obtain ⟨A, c, e1, e2, k5⟩ := k4.sl_cut (i := i) (j := i + m) (by omega) (by omega)
        injection e1 with e3 e4 e5
        subst e3 e5
        have e6 : (xs.take (i + m)).drop i = (xs.drop i).take m := by rw [List.take_drop]
        rw [e6, show i + m - i = m by omega] at k5
        rcases Nat.eq_zero_or_pos m with h0 | h0
        · subst h0
          rw [List.take_zero] at k5 ⊢
          obtain ⟨_, _, _, _, e7, hM⟩ := Mem.of_sl k5
          injection e7 with e7 e8 e9
          have := hM.max
          exact .inr ⟨_, .sl0 sz A0 _ (by omega), rfl⟩
        · rw [hA0 (.inl h0), k3]
          exact .inr ⟨_, k5.ext (fun _ _ => rfl) hS (fun _ _ _ h => by cases h), rfl⟩
      · cases h
    · cases h
  case con u =>
    split at h
    · rename_i hu
      injection h with h; injection h with e1 e2; subst e1 e2
      rw [hv.con.trans (nilS_eq hu)]
      exact .inr ⟨_, .sl0 1 none 0 (by omega), rfl⟩
    · exact same h hv
  all_goals exact same h hv
theorem bor1_ok (H : ObsOk w S ρ hp) {x y : AV} {l brw : List Nat} {v : Value} (h : bor1 hp x = some (y, l)) (hl : ∀ i ∈ l, i ∈ brw) (hS : ∀ b, S b → Sc b) (hB : ∀ b, Brw ρ hp brw b → Sc b) (hv : Vl w S ρ x v) : Vl w Sc ρ y v := by
  cases x
  case agg ps =>
    simp only [bor1] at h
    obtain ⟨m, hm, e⟩ := Option.map_eq_some_iff.1 h
    injection e with e1 e2; subst e1 e2
    obtain ⟨us, hc, rfl⟩ := hv.agg
    replace hc := hc.parts
    suffices hh : Css w Sc ρ (m.map (·.1)) us from Vl.agg' hh.cs
    clear h hv
    induction ps generalizing us m with
    | nil => simp only [mapO, Option.some.injEq] at hm; subst hm; exact hc
    | cons p ps ih =>
      obtain ⟨s, x⟩ := p
      simp only [mapO] at hm
      split at hm
      · rename_i b bs hb hbs
        injection hm with hm; subst hm
        obtain ⟨⟨y, k⟩, hy, rfl⟩ := Option.map_eq_some_iff.1 hb
        obtain ⟨u1, u2, rfl, h1, h2, h3⟩ := hc
        have hl' : (∀ i ∈ k, i ∈ brw) ∧ ∀ i ∈ (bs.map (·.2)).flatten, i ∈ brw := by
          constructor
          · intro i hi; exact hl i (by simp [hi])
          · intro i hi; exact hl i (by simp only [List.map_cons, List.flatten_cons, List.mem_append]; exact .inr hi)
        have h2' : Cs w Sc ρ y u1 := by
          cases x <;> simp only [bor0] at hy
          case own id ver =>
            obtain ⟨v, rfl⟩ : ∃ v, u1 = [v] := by cases h2; exact ⟨_, rfl⟩
            have hv1 : Vl w S ρ (.own id ver) v := .inr ⟨[v], h2, rfl⟩
            have := bor0_ok H (x := .own _ _) (by simpa only [bor0] using hy) hl'.1 hS hB hv1
            split at hy
            · split at hy
              · injection hy with hy; injection hy with e1 e2; subst e1; exact this.sl
              · cases hy
            · split at hy
              · injection hy with hy; injection hy with e1 e2; subst e1; exact this.sl
              · cases hy
            · cases hy
          case ownv id ver i m =>
            obtain ⟨v, rfl⟩ : ∃ v, u1 = [v] := by cases h2; exact ⟨_, rfl⟩
            have hv1 : Vl w S ρ (.ownv id ver i m) v := .inr ⟨[v], h2, rfl⟩
            have := bor0_ok H (x := .ownv _ _ _ _) (by simpa only [bor0] using hy) hl'.1 hS hB hv1
            split at hy
            · split at hy
              · injection hy with hy; injection hy with e1 e2; subst e1; exact this.sl
              · cases hy
            · split at hy
              · injection hy with hy; injection hy with e1 e2; subst e1; exact this.sl
              · cases hy
            · cases hy
          case con u =>
            split at hy
            · rename_i hu
              injection hy with hy; injection hy with e1 e2; subst e1
              have : u1 = [u] := by cases h2; rfl
              rw [this, nilS_eq hu]
              exact .sl0 1 none 0 (by omega)
            · injection hy with hy; injection hy with e1 e2; subst e1
              exact h2.ext (fun _ _ => rfl) hS (fun _ _ _ h => h)
          all_goals (injection hy with hy; injection hy with e1 e2; subst e1; exact h2.ext (fun _ _ => rfl) hS (fun _ _ _ h => h))
        exact ⟨u1, u2, rfl, h1, h2', ih bs hbs hl'.2 u2 h3⟩
      · cases hm
  all_goals (refine bor0_ok (l := l) H ?_ hl hS hB hv; exact h)
theorem bor_ok (H : ObsOk w S ρ hp) {brw : List Nat} (hS : ∀ b, S b → Sc b) (hB : ∀ b, Brw ρ hp brw b → Sc b) : ∀ {ms : List Bool} {xs ys : List AV} {l : List Nat} {vs : List Value}, bor hp ms xs = some (ys, l) → (∀ i ∈ l, i ∈ brw) → ArgsOk w S ρ xs vs → ArgsOk w Sc ρ ys vs := by
  have ext : ∀ {x : AV} {v : Value}, Vl w S ρ x v → Vl w Sc ρ x v := fun h => h.ext ⟨fun _ _ => rfl, hS, fun _ _ _ h => h⟩
  have cons : ∀ {x y : AV} {xs ys : List AV} {vs : List Value}, ArgsOk w S ρ (x :: xs) vs → (∀ v, Vl w S ρ x v → Vl w Sc ρ y v) → (∀ vs, ArgsOk w S ρ xs vs → ArgsOk w Sc ρ ys vs) → ArgsOk w Sc ρ (y :: ys) vs := by
    intro x y xs ys vs h h1 h2
    obtain ⟨h3, h4⟩ := h
    cases vs with
    | nil => simp at h3
    | cons v vs =>
      have k1 := h1 v (by simpa using h4 0 (by simp))
      obtain ⟨k2, k3⟩ := h2 vs ⟨by simpa using h3, fun i hi => by simpa using h4 (i + 1) (by simpa using hi)⟩
      refine ⟨by simp [k2], fun i hi => ?_⟩
      cases i with
      | zero => simpa using k1
      | succ i => simpa using k3 i (by simpa using hi)
  intro ms xs
  induction xs generalizing ms with
  | nil =>
    intro ys l vs h hl ha
    have : some (([] : List AV), ([] : List Nat)) = some (ys, l) := by cases ms with | nil => exact h | cons b ms => cases b <;> exact h
    injection this with e; injection e with e1 e2; subst e1
    exact ⟨ha.1, fun i hi => by simp at hi⟩
  | cons x xs ih =>
    intro ys l vs h hl ha
    have step : ∀ {ms : List Bool}, (match bor1 hp x, bor hp ms xs with | some (y, k), some (ys, l) => some (y :: ys, k ++ l) | _, _ => none) = some (ys, l) → ArgsOk w Sc ρ ys vs := by
      intro ms h
      split at h
      · rename_i y k ys' l' hy hr
        injection h with h; injection h with e1 e2; subst e1 e2
        exact cons ha (fun v hv => bor1_ok H hy (fun i hi => hl i (by simp [hi])) hS hB hv) (fun vs hvs => ih hr (fun i hi => hl i (by simp [hi])) hvs)
      · cases h
    cases ms with
    | nil => exact step h
    | cons b ms =>
      cases b with
      | false => exact step h
      | true =>
        simp only [bor] at h
        split at h
        · rename_i ys' l' hr
          injection h with h; injection h with e1 e2; subst e1 e2
          exact cons ha (fun v hv => ext hv) (fun vs hvs => ih hr hl hvs)
        · cases h
end
end Go.Proofs.Ytbefhofmbiedgaa
