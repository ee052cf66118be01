/- Loops of the abstract machine by states that are drawn from parameters. Over any program; no condition. -/
import Derived.Test.YtbefhofmbiedgaaA23
namespace Go.Proofs.Ytbefhofmbiedgaa
set_option linter.all false
open Go.RowKit

theorem len_le {n m : Nat} (h : Nat.ble n m = true) : n ≤ m := Nat.le_of_ble_eq_true h
section
variable {m : Nat} {B : (Exit → St → Prop) → St → Prop} {Q : Exit → St → Prop} {s : St}
open Classical in
theorem loopQ_at {α : Type} (nils : List (Nat × TypeId × Nat)) (sl ids : List Nat) (st : α → St) (Inv : α → Prop) (μ : α → Nat) (a0 : α) (hk : ent nils sl ids s = some (st a0)) (h0 : Inv a0) (hm : nodupB ids = true ∧ ids.take m = List.range m)
    (h : ∀ a, Inv a → B (thenQ (fun s' => ∃ a', Inv a' ∧ μ a' < μ a ∧ kp sl ids.length s' = some (st a')) Q) (st a))
    (mono : ∀ (K K' : Exit → St → Prop), (∀ e s, K e s → K' e s) → ∀ s, B K s → B K' s) : loopQ m B Q s := by
  have least : ∀ s, (∃ a, Inv a ∧ st a = s) → ∃ a, Inv a ∧ st a = s ∧ ∀ a', Inv a' → st a' = s → μ a ≤ μ a' := by
    intro s hs
    obtain ⟨a, ha, hs⟩ := hs
    generalize hk : μ a = k
    induction k using Nat.strongRecOn generalizing a with
    | _ k ih =>
      by_cases hex : ∃ a', Inv a' ∧ st a' = s ∧ μ a' < k
      · obtain ⟨a', h1, h2, h3⟩ := hex
        exact ih (μ a') h3 a' h1 h2 rfl
      · refine ⟨a, ha, hs, fun a' h1 h2 => ?_⟩
        rw [hk]
        exact Nat.le_of_not_lt fun hlt => hex ⟨a', h1, h2, hlt⟩
  obtain ⟨M, hM1, hM2⟩ : ∃ M : St → Nat, (∀ s, (∃ a, Inv a ∧ st a = s) → ∃ a, Inv a ∧ st a = s ∧ M s = μ a) ∧ ∀ a, Inv a → M (st a) ≤ μ a := by
    refine ⟨fun s => if h : ∃ a, Inv a ∧ st a = s then μ (least s h).choose else 0, fun s hs => ?_, fun a ha => ?_⟩
    · obtain ⟨c1, c2, c3⟩ := (least s hs).choose_spec
      refine ⟨_, c1, c2, ?_⟩
      simp only [dif_pos hs]
    · have hs : ∃ a', Inv a' ∧ st a' = st a := ⟨a, ha, rfl⟩
      obtain ⟨c1, c2, c3⟩ := (least _ hs).choose_spec
      simp only [dif_pos hs]
      exact c3 a ha rfl
  refine ⟨nils, sl, ids, fun s => ∃ a, Inv a ∧ st a = s, M, hm.1, hm.2, ⟨_, hk, a0, h0, rfl⟩, fun s hs => ?_⟩
  · obtain ⟨a, ha, has, hμ⟩ := hM1 s hs
    rw [hμ]
    subst has
    refine mono _ _ (fun e s' hq => ?_) _ (h a ha)
    cases e with
    | normal =>
      obtain ⟨a', h1, h2, h3⟩ := hq
      show kpQ _ _ _ _
      unfold kpQ; rw [h3]
      exact ⟨⟨a', h1, rfl⟩, Nat.lt_of_le_of_lt (hM2 a' h1) h2⟩
    | _ => exact hq
end
theorem aq_mono {r : Option (AV × List AObj × Prop)} {s : St} {d : Option Nat} {K K' : St → Prop} (h : ∀ s, K s → K' s) (hq : aq r s d K) : aq r s d K' := by
  cases r with
  | none => exact hq
  | some r => exact ⟨hq.1, h _ hq.2⟩
theorem arun_mono {Φ : Phi} : ∀ (l : List AOper) (s : St) (K K' : St → Prop), (∀ s, K s → K' s) → arun Φ l K s → arun Φ l K' s := by
  intro l
  induction l with
  | nil => intro s K K' h hk; exact h _ hk
  | cons o r ih =>
    intro s K K' h hk
    rw [arun_eq] at hk ⊢
    split
    · rename_i hg; rw [hg] at hk; exact aq_mono (fun s' hs => ih _ _ _ h hs) hk
    · rename_i t b hg
      rw [hg] at hk
      exact gdQ_mono hk (aq_mono fun s' hs => ih _ _ _ h hs) (ih _ _ _ h)
theorem arunD_mono {Φ : Phi} : ∀ (hs : Hid1) (l : List AOper) (ls : List Nat) (s : St) (K K' : St → Prop), (∀ s, K s → K' s) → arunD Φ hs l ls K s → arunD Φ hs l ls K' s := by
  intro hs l
  induction l generalizing hs with
  | nil => intro ls s K K' h hk; cases hs <;> exact h _ hk
  | cons o r ih =>
    intro ls s K K' h hk
    cases hs with
    | nil => exact (show False from by obtain ⟨d, op, g⟩ := o; cases g <;> exact hk).elim
    | cons hd hs =>
      rw [arunD_eq] at hk ⊢
      split
      · rename_i hg; rw [hg] at hk; exact aq_mono (fun s' hs' => ih _ _ _ _ _ h hs') hk
      · rename_i t b hg
        rw [hg] at hk
        exact gdQ_mono hk (aq_mono fun s' hs' => ih _ _ _ _ _ h hs') (ih _ _ _ _ _ h)
theorem kpQ_mono {sl : List Nat} {n : Nat} {s : St} {I J : St → Prop} (h : ∀ s, I s → J s) (hk : kpQ sl n s I) : kpQ sl n s J := by
  unfold kpQ at hk ⊢
  split
  · rename_i s' he; rw [he] at hk; exact h _ hk
  · rename_i he; rw [he] at hk; exact hk
theorem awp_mono {Φ : Phi} {m : Nat} : ∀ (c : ACode) (Q Q' : Exit → St → Prop), (∀ e s, Q e s → Q' e s) → ∀ s, awp Φ m c Q s → awp Φ m c Q' s := by
  intro c
  induction c with
  | skip => intro Q Q' h s hq; exact h _ _ hq
  | reg hid l =>
    intro Q Q' h s hq
    cases hid with
    | none => exact arun_mono l s _ _ (fun s => h _ s) hq
    | some hid => exact arunD_mono hid l _ s _ _ (fun s => h _ s) hq
  | seq x y ihx ihy =>
    intro Q Q' h s hq
    refine ihx _ _ (fun e s hs => ?_) s hq
    cases e <;> first | exact ihy _ _ h s hs | exact h _ _ hs
  | cond c x y ihx ihy =>
    intro Q Q' h s hq
    simp only [awp, condQ] at hq ⊢
    split
    · rename_i b hb; rw [hb] at hq; exact ⟨fun e => ihx _ _ h s (hq.1 e), fun e => ihy _ _ h s (hq.2 e)⟩
    · rename_i hn
      split at hq
      · rename_i b hb; exact absurd hb (hn b)
      · exact hq
  | block id c ih =>
    intro Q Q' h s hq
    refine ih _ _ (fun e s hs => ?_) s hq
    cases e <;> simp only [inQ] at hs ⊢ <;> first | exact h _ _ hs | (split <;> rename_i e <;> simp only [e, if_true, if_false] at hs <;> exact h _ _ hs)
  | loop c ih =>
    intro Q Q' h s hq
    obtain ⟨nils, sl, ids, I, μ, hm, hm2, h0, hr⟩ := hq
    refine ⟨nils, sl, ids, I, μ, hm, hm2, h0, fun s hs => ih _ _ (fun e s' hs' => ?_) s (hr s hs)⟩
    cases e <;> first | exact hs' | exact h _ _ hs'
  | exit i => intro Q Q' h s hq; exact h _ _ hq
  | ret => intro Q Q' h s hq; exact h _ _ hq
/-- A loop, by parameters: st gives the state at its head. -/
theorem loop_at {Φ : Phi} {m : Nat} {c : ACode} {Q : Exit → St → Prop} {s : St} {α : Type} (nils : List (Nat × TypeId × Nat)) (sl ids : List Nat) (st : α → St) (Inv : α → Prop) (μ : α → Nat) (a0 : α) (hk : ent nils sl ids s = some (st a0)) (h0 : Inv a0) (hm : nodupB ids = true ∧ ids.take m = List.range m)
    (h : ∀ a, Inv a → awp Φ m c (thenQ (fun s' => ∃ a', Inv a' ∧ μ a' < μ a ∧ kp sl ids.length s' = some (st a')) Q) (st a)) : loopQ m (awp Φ m c) Q s :=
  loopQ_at nils sl ids st Inv μ a0 hk h0 hm h (fun K K' hh s hs => awp_mono c K K' hh s hs)
/-- A part of the code, by what holds behind it. -/
theorem awp_cut {Φ : Phi} {m : Nat} {c : ACode} {Q : Exit → St → Prop} {s : St} (R : Exit → St → Prop) (h : awp Φ m c R s) (hQ : ∀ e s, R e s → Q e s) : awp Φ m c Q s := awp_mono c R Q hQ s h
end Go.Proofs.Ytbefhofmbiedgaa
