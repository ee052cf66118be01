/- A call on abstract values, whole. Over any program; no condition. -/
import Derived.Test.YtbefhofmbiedgaaA16
namespace Go.Proofs.Ytbefhofmbiedgaa
set_option linter.all false
open Go.RowKit

/-- Where the objects of a call lie in the caller's heap: the lent ones where they lay, the new ones from n on. -/
def tau (n : Nat) (ids : List Nat) (N : Nat) (j : Nat) : Option Nat := if j < ids.length then ids[j]? else if j < N then some (n + (j - ids.length)) else none
def lentO (hp : List AObj) (ids : List Nat) : Option (List AObj) := mapO (fun i => match hp[i]? with
  | some o => renObj (posOf ids) o
  | none => none) ids
def okIds (ids brw : List Nat) : Bool := nodupB ids && ids.all fun i => !brw.contains i
def flatOs : List AObj → Prop
  | [] => True
  | o :: r => flatO o ∧ flatOs r
theorem flatOs_ok : ∀ {l : List AObj}, flatOs l → ∀ (j : Nat) (o : AObj), l[j]? = some o → flatO o := by
  intro l
  induction l with
  | nil => intro _ j o h; simp at h
  | cons a l ih =>
    intro h j o ho
    cases j with
    | zero => simp only [List.getElem?_cons_zero, Option.some.injEq] at ho; subst ho; exact h.1
    | succ j => exact ih h.2 j o (by simpa using ho)
/-- Nothing is borrowed, or what comes back leans on no stable memory. -/
def flatC (brw : List Nat) (v : AV) (os : List AObj) : Option Prop := if brw.isEmpty then some True else if flatB 4 v then some (flatOs os) else none

section
variable {P : Program} {F : Nat → Prop} {w0 w : World} {S : Nat → Prop} {ρ : Rho} {hp hpM hp2 hc os : List AObj}
theorem call_gen {f : FuncId} {sp : Spec} {m : List Bool} {as as1 as2 : List AV} {brw ids : List Nat} {r : Ret} {x : AV} {q : Prop} {n : Nat} {args : List Value} (hf : FnOk P f sp) (H : HeapOk F w0 S ρ hp w)
    (hM : ∀ (i : Nat) (o : AObj), hpM[i]? = some o → o ≠ .gone → hp[i]? = some o) (ha : ArgsOk w S ρ as args) (h1 : bor hpM m as = some (as1, brw)) (h2 : mapO (ren (posOf ids) 4) as1 = some as2)
    (h3 : lentO hp ids = some hc) (h4 : okIds ids brw = true) (h5 : sp as2 hc = some r) (hpre : r.pre) (h6 : ren (tau n ids r.hp.length) 4 r.v = some x) (h7 : mapO (renObj (tau n ids r.hp.length)) r.hp = some os)
    (h8 : flatC brw r.v r.hp = some q) (hq : q)
    (hb : ∀ (k : Nat) (o : AObj), hp2[k]? = some o → (∃ j, tau n ids r.hp.length j = some k ∧ os[j]? = some o) ∨ (hp[k]? = some o ∧ ∀ j, tau n ids r.hp.length j ≠ some k))
    (hn : ∀ k, n ≤ k → k < n + (r.hp.length - ids.length) → (∀ v, ρ k v = none) ∧ k < hp2.length ∧ ∀ i : Nat, ids[i]? ≠ some k) (hlen : hp.length ≤ hp2.length) :
    Calls P f args.toArray w fun e w' => ∃ v S' ρ', e = .returned v ∧ Vl w' S' ρ' x v ∧ HeapOk F w0 S' ρ' hp2 w' ∧ Ext w w' S S' ρ ρ' ∧ (∀ b, S' b → S b ∨ F b ∨ w0.heap.size ≤ b) := by
  simp only [okIds, Bool.and_eq_true, List.all_eq_true, Bool.not_eq_true', List.contains_eq_mem, decide_eq_false_iff_not] at h4
  obtain ⟨hnd, hdis⟩ := h4
  have hinj := nodupB_ok hnd
  generalize hN : r.hp.length = N at *
  obtain ⟨g1, g2⟩ := mapO_get h3
  -- the lent objects
  have lent : ∀ (i : Nat) (o : AObj), hc[i]? = some o → ∃ k ok, ids[i]? = some k ∧ hp[k]? = some ok ∧ renObj (posOf ids) ok = some o ∧ posOf ids k = some i := by
    intro i o ho
    have hi : i < ids.length := by rw [← g1]; exact (List.getElem?_eq_some_iff.1 ho).1
    obtain ⟨o', ho', hr⟩ := g2 i _ (List.getElem?_eq_getElem hi)
    rw [ho] at ho'; injection ho' with ho'; subst ho'
    split at hr
    · rename_i ok hok
      refine ⟨ids[i], ok, List.getElem?_eq_getElem hi, hok, hr, ?_⟩
      cases hp : posOf ids ids[i] with
      | none => exact absurd (List.getElem?_eq_getElem hi) (posOf_none hp i)
      | some j => rw [hinj i j _ (List.getElem?_eq_getElem hi) (posOf_ok hp)]
    · cases hr
  let ρc : Rho := fun i v => match ids[i]? with
    | some k => ρ k v
    | none => none
  let Sc : Nat → Prop := fun b => S b ∨ Brw ρ hpM brw b
  have hρc : ∀ {i k : Nat}, ids[i]? = some k → ∀ v, ρc i v = ρ k v := fun {i k} h v => by simp only [ρc, h]
  have hσ : ∀ i j, posOf ids i = some j → ∀ v L, ρ i v = some L → ρc j v = some L := fun i j hij v L h => by rw [hρc (posOf_ok hij)]; exact h
  have brwHp : ∀ b, Brw ρ hpM brw b → ∃ id o, id ∈ brw ∧ hp[id]? = some o ∧ o.blk ρ id = some b := by
    rintro b ⟨id, o, e1, e2, e3⟩
    exact ⟨id, o, e1, hM id o e2 (by rintro rfl; cases e3), e3⟩
  have lentObj : ∀ (i : Nat) (o : AObj), hc[i]? = some o → ∃ k ok, ids[i]? = some k ∧ hp[k]? = some ok ∧ posOf ids k = some i ∧ ObjOk w Sc ρc i o ∧ o.ver = ok.ver ∧ (∀ b, o.blk ρc i = some b → ok.blk ρ k = some b) := by
    intro i o ho
    obtain ⟨k, ok, e1, e2, e3, e4⟩ := lent i o ho
    obtain ⟨k1, k2, k3⟩ := renObj_ok (S' := Sc) (ρ' := ρc) hσ e4 (fun v hv => by rw [hρc e1]; exact hv) e3 (H.ob k ok e2) (fun b hb hs => by
      rcases hs with hs | hs
      · exact hs
      · obtain ⟨id, o2, d1, d2, d3⟩ := brwHp b hs
        refine absurd hb (H.apart id k o2 ok (fun e => ?_) d2 e2 b d3)
        exact hdis k (List.mem_of_getElem? e1) (e ▸ d1)) (.inl fun b hb => .inl hb)
    exact ⟨k, ok, e1, e2, e4, k1, k2, k3⟩
  have Hc : HeapOk (Lent ρc hc) w Sc ρc hc w := by
    refine ⟨Kept.refl _ _, fun i o ho => ?_, fun i j y z hij hy hz b hyb hzb => ?_, fun i o ho b hb => .inl ⟨i, o, ho, hb⟩, fun b hb => ?_, fun i hi v => ?_, fun i o ho v hv => ?_⟩
    · obtain ⟨k, ok, e1, e2, e3, e4, e5, e6⟩ := lentObj i o ho; exact e4
    · obtain ⟨k, ok, e1, e2, e3, e4, e5, e6⟩ := lentObj i y hy
      obtain ⟨k', ok', d1, d2, d3, d4, d5, d6⟩ := lentObj j z hz
      refine H.apart k k' ok ok' (fun e => ?_) e2 d2 b (e6 b hyb) (d6 b hzb)
      subst e; exact hij (hinj i j k e1 d1)
    · rcases hb with hb | hb
      · exact H.slt b hb
      · obtain ⟨id, o, d1, d2, d3⟩ := brwHp b hb
        exact (H.ob id o d2).lt b d3
    · have : ids[i]? = none := List.getElem?_eq_none (by omega)
      simp only [ρc, this]
    · obtain ⟨k, ok, e1, e2, e3, e4, e5, e6⟩ := lentObj i o ho
      rw [hρc e1]; exact H.vers k ok e2 v (by rw [← e5]; exact hv)
  have ha2 : ArgsOk w Sc ρc as2 args := by
    have hb1 := bor_ok (Sc := Sc) (fun i o ho hne => H.ob i o (hM i o ho hne)) (brw := brw) (fun b hb => .inl hb) (fun b hb => .inr hb) h1 (fun i hi => hi) ha
    obtain ⟨m1, m2⟩ := mapO_get h2
    refine ⟨by rw [hb1.1, m1], fun i hi => ?_⟩
    obtain ⟨y, y1, y2⟩ := m2 i _ (List.getElem?_eq_getElem (by omega))
    have := hb1.2 i (by omega)
    rw [List.getD_eq_getElem?_getD (l := as1), List.getElem?_eq_getElem (show i < as1.length by omega)] at this
    rw [List.getD_eq_getElem?_getD (l := as2), y1]
    exact ren_vl hσ y2 this
  have hτin : ∀ {j k : Nat}, ids[j]? = some k → tau n ids N j = some k := fun {j k} h => by
    unfold tau; rw [if_pos (List.getElem?_eq_some_iff.1 h).1]; exact h
  have hτ : ∀ {j k : Nat}, tau n ids N j = some k → ids[j]? = some k ∨ (ids.length ≤ j ∧ j < N ∧ k = n + (j - ids.length)) := by
    intro j k h
    unfold tau at h
    split at h
    · exact .inl h
    · split at h
      · injection h with h; exact .inr ⟨by omega, by omega, h.symm⟩
      · cases h
  obtain ⟨o1, o2⟩ := mapO_get h7
  refine (hf as2 hc r h5 hpre w Sc ρc args Hc ha2).mono ?_
  rintro e w' ⟨v, S', ρ', rfl, hv, Hr, hE, hS2⟩
  have hflat : (∀ b, S' b → S b ∨ w.heap.size ≤ b ∨ Lent ρc hc b) ∨ (flatB 4 r.v = true ∧ ∀ (j : Nat) (o : AObj), r.hp[j]? = some o → flatO o) := by
    unfold flatC at h8
    split at h8
    · rename_i he
      left
      intro b hb
      rcases hS2 b hb with h | h | h
      · rcases h with h | ⟨id, o, d1, _⟩
        · exact .inl h
        · rw [List.isEmpty_iff.1 he] at d1; cases d1
      · exact .inr (.inl h)
      · exact .inr (.inr h)
    · split at h8
      · rename_i hfl
        injection h8 with h8; subst h8
        exact .inr ⟨hfl, flatOs_ok hq⟩
      · cases h8
  have hnew : ∀ {j k : Nat}, ids.length ≤ j → j < N → k = n + (j - ids.length) → (∀ v, ρ k v = none) ∧ k < hp2.length ∧ ∀ i : Nat, ids[i]? ≠ some k := fun {j k} a1 a2 a3 => hn k (by omega) (by omega)
  have hlentB : ∀ b, Lent ρc hc b → ∃ (k : Nat) (o : AObj) (j : Nat), hp[k]? = some o ∧ o.blk ρ k = some b ∧ tau n ids N j = some k := by
    rintro b ⟨i, o, d1, d2⟩
    obtain ⟨k, ok, e1, e2, e3, e4, e5, e6⟩ := lentObj i o d1
    exact ⟨k, ok, i, e2, e6 b d2, hτin e1⟩
  have hinjT : ∀ i j k, tau n ids N i = some k → tau n ids N j = some k → i = j := by
    intro i j k hi hj
    rcases hτ hi with h | ⟨a1, a2, a3⟩ <;> rcases hτ hj with h' | ⟨b1, b2, b3⟩
    · exact hinj i j k h h'
    · exact absurd h ((hnew b1 b2 b3).2.2 i)
    · exact absurd h' ((hnew a1 a2 a3).2.2 j)
    · omega
  obtain ⟨M1, M2⟩ := H.merge (τ := tau n ids N) (hp2 := hp2) Hr (fun b hb => hE.st b (.inl hb)) (fun b hb => hE.mem b (.inl hb)) hinjT (fun k o ho => by
      rcases hb k o ho with ⟨j, j1, j2⟩ | h
      · left
        have hj : j < r.hp.length := by rw [← o1]; exact (List.getElem?_eq_some_iff.1 j2).1
        obtain ⟨y, y1, y2⟩ := o2 j _ (List.getElem?_eq_getElem hj)
        rw [j2] at y1; injection y1 with y1; subst y1
        exact ⟨j, _, List.getElem?_eq_getElem hj, j1, y2⟩
      · exact .inr h) hlentB (fun j k hj v L hL => by
      rcases hτ hj with h | ⟨a1, a2, a3⟩
      · exact hE.loc _ _ _ (by rw [hρc h]; exact hL)
      · rw [(hnew a1 a2 a3).1] at hL; cases hL) (fun j k hj => by
      rcases hτ hj with h | ⟨a1, a2, a3⟩
      · left
        have hjl := (List.getElem?_eq_some_iff.1 h).1
        obtain ⟨o', ho', hr⟩ := g2 j _ h
        split at hr
        · rename_i ok hok
          exact Nat.lt_of_lt_of_le (List.getElem?_eq_some_iff.1 hok).1 hlen
        · cases hr
      · exact .inl (hnew a1 a2 a3).2.1) hlen (hflat.imp id fun h => h.2)
  refine ⟨v, _, _, rfl, ?_, M1, M2, fun b hb => ?_⟩
  · refine ren_vl (ρ := ρ') (fun i j hij v L hL => by rw [rhoM_in hinjT hij]; exact hL) h6 ?_
    rcases hflat with h | h
    · exact hv.ext ⟨fun _ _ => rfl, fun b hb => ⟨hb, h b hb⟩, fun _ _ _ h => h⟩
    · exact flat_vl h.1 hv
  · rcases hb.2 with h | h | h
    · exact .inl h
    · have := H.kept.size; exact .inr (.inr (by omega))
    · obtain ⟨k, o, j, d1, d2, d3⟩ := hlentB b h
      exact .inr (H.mine k o d1 b d2)
end
end Go.Proofs.Ytbefhofmbiedgaa
