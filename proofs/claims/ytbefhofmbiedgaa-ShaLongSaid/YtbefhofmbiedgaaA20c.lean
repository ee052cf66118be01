/- Regions that draw their order, on the abstract machine: every order does as the text's. Over any program; no condition. -/
import Derived.Test.YtbefhofmbiedgaaA20b
namespace Go.Proofs.Ytbefhofmbiedgaa
set_option linter.all false
open Go.RowKit

abbrev Hid1 := List (Nat × Bool)
def preB : List AObj → List AObj → Prop
  | [], _ => True
  | a :: l, b :: m => a = b ∧ preB l m
  | _ :: _, [] => False
theorem preB_ok : ∀ {l m : List AObj}, preB l m → ∃ t, m = l ++ t := by
  intro l
  induction l with
  | nil => intro m _; exact ⟨m, rfl⟩
  | cons a l ih =>
    intro m h
    cases m with
    | nil => exact h.elim
    | cons b m => obtain ⟨rfl, h⟩ := h; obtain ⟨t, rfl⟩ := ih h; exact ⟨t, rfl⟩
/-- One operation in a drawn region: its value, the heap behind it, what is to be shown. -/
def exD (Φ : Phi) (h : Nat × Bool) (o : AOper) (lens : List Nat) (s : St) : Option (AV × List AObj × Prop) :=
  if o.op.isH then match astep Φ s o.op with
    | some (x, hp, p) => if h.2 then some (x, hp, p) else some (x, hp, p ∧ preB s.hp hp)
    | none => none
  else match aval ⟨s.fr, s.hp.take (lens.getD h.1 0)⟩ o.op with
    | some (x, p) => some (x, s.hp, p)
    | none => none
/-- The state with its guard's slot told again. -/
def pinO (o : AOper) (s : St) : St :=
  match o.grd with
  | some (t, _) => ⟨(t, lk s.fr t) :: s.fr, s.hp⟩
  | none => s
theorem pinO_lk {o : AOper} {s : St} (u : Nat) : lk (pinO o s).fr u = lk s.fr u := by
  unfold pinO
  split
  · simp only [lk]
    split
    · rename_i e; subst e; rfl
    · rfl
  · rfl
theorem pinO_hp {o : AOper} {s : St} : (pinO o s).hp = s.hp := by unfold pinO; split <;> rfl
def arunD (Φ : Phi) : Hid1 → List AOper → List Nat → (St → Prop) → St → Prop
  | _, [], _, K, s => K s
  | h :: hs, ⟨d, op, none⟩ :: r, lens, K, s => aq (exD Φ h ⟨d, op, none⟩ (lens ++ [s.hp.length]) s) s d (arunD Φ hs r (lens ++ [s.hp.length]) K)
  | h :: hs, ⟨d, op, some (t, b)⟩ :: r, lens, K, s =>
    gdQ (lk s.fr t) b (aq (exD Φ h ⟨d, op, some (t, b)⟩ (lens ++ [s.hp.length]) s) (s.pin t b) d (arunD Φ hs r (lens ++ [s.hp.length]) K)) (arunD Φ hs r (lens ++ [s.hp.length]) K ((s.pin t (!b)).put d .top s.hp))
  | [], _ :: _, _, _, _ => False
theorem arunD_eq {Φ : Phi} {h : Nat × Bool} {hs : Hid1} {o : AOper} {r : List AOper} {lens : List Nat} {K : St → Prop} {s : St} : arunD Φ (h :: hs) (o :: r) lens K s = match o.grd with
    | none => aq (exD Φ h o (lens ++ [s.hp.length]) s) s o.dst (arunD Φ hs r (lens ++ [s.hp.length]) K)
    | some (t, b) => gdQ (lk s.fr t) b (aq (exD Φ h o (lens ++ [s.hp.length]) s) (s.pin t b) o.dst (arunD Φ hs r (lens ++ [s.hp.length]) K)) (arunD Φ hs r (lens ++ [s.hp.length]) K ((s.pin t (!b)).put o.dst .top s.hp)) := by
  obtain ⟨d, op, g⟩ := o
  cases g <;> rfl
def drawQ (Φ : Phi) (hid : Hid1) (l : List AOper) (K : St → Prop) (s : St) : Prop := arunD Φ hid l [] K s

/-! ### What is asked of the edges -/
def esO (o : Oper) : List Nat := o.after.toList.filterMap fun e => if Region.binds .any e then some e.on else none
def ancGo : List Oper → List (List Nat) → List (List Nat)
  | [], acc => acc
  | o :: r, acc => ancGo r (acc ++ [esO o ++ (esO o).flatMap fun k => acc.getD k []])
def ltAll (n : Nat) (p : Nat → Bool) : Bool := (List.range n).all p
def drawB (ops : Array Oper) (hid : Hid1) (l : List AOper) : Bool :=
  let A := ancGo ops.toList []
  let n := ops.size
  let dst := fun k => (l[k]?).bind (·.dst)
  let isH := fun k => ((l[k]?).map (·.op.isH)).getD false
  l.length == n && hid.length == n &&
  (ltAll n fun i => ((ops[i]?).map esO).getD [] |>.all fun k => decide (k < i)) &&
  (ltAll n fun i => ltAll n fun j => i == j || (dst i).isNone || dst i != dst j) &&
  (ltAll n fun i => (((l[i]?).map AOper.rd).getD []).all fun t => ltAll n fun k => k == i || dst k != some t || (if k < i then (A.getD i []).contains k else (A.getD k []).contains i)) &&
  (ltAll n fun i => ltAll i fun k => !(isH i && isH k) || (A.getD i []).contains k) &&
  (ltAll n fun i => !(hid.getD i (0, false)).2 || ((ltAll i fun k => (A.getD i []).contains k) && (ltAll n fun k => decide (k ≤ i) || (A.getD k []).contains i))) &&
  (ltAll n fun i => decide ((hid.getD i (0, false)).1 ≤ i) && (ltAll (hid.getD i (0, false)).1 fun k => !isH k || (A.getD i []).contains k) && (ltAll i fun k => decide (k < (hid.getD i (0, false)).1) || !isH k || !(hid.getD k (0, false)).2))
def drawOk (P : Program) (ops : Array Oper) (hid : Hid1) (l : List AOper) : Prop := P.follows .mixedOrders = true ∧ drawB ops hid l = true
def hidOf (ops : Array Oper) (l : List AOper) : Hid1 :=
  let A := ancGo ops.toList []
  let n := ops.size
  (List.range n).map fun i =>
    ((((List.range i).find? fun k => ((l[k]?).map (·.op.isH)).getD false && !(A.getD i []).contains k).getD i),
      (ltAll i fun k => (A.getD i []).contains k) && (ltAll n fun k => decide (k ≤ i) || (A.getD k []).contains i))
def drawHid (P : Program) (ops : Array Oper) (l : List AOper) : Option Hid1 := if P.follows .mixedOrders = true ∧ drawB ops (hidOf ops l) l = true then some (hidOf ops l) else none
theorem drawHid_ok {P : Program} {ops : Array Oper} {l : List AOper} {hid : Hid1} (h : drawHid P ops l = some hid) : drawOk P ops hid l := by
  unfold drawHid at h
  split at h
  · rename_i e; injection h with h; subst h; exact e
  · cases h
theorem ltAll_ok {n : Nat} {p : Nat → Bool} (h : ltAll n p = true) : ∀ i, i < n → p i = true := by
  intro i hi
  exact List.all_eq_true.1 h i (List.mem_range.2 hi)

/-- Sets of operations that hold what their own wait for. -/
def ClosedD (ops : Array Oper) (D : Nat → Bool) : Prop := ∀ (k : Nat) (o : Oper), D k = true → ops[k]? = some o → ∀ e ∈ esO o, D e = true
theorem ancGo_ok {ops : Array Oper} {D : Nat → Bool} (hD : ClosedD ops D) : ∀ (r : List Oper) (acc : List (List Nat)), r = ops.toList.drop acc.length → acc.length ≤ ops.size →
    (∀ (j : Nat) (o : Oper), ops[j]? = some o → j < acc.length → (∀ e ∈ esO o, D e = true) → ∀ k ∈ acc.getD j [], D k = true) →
    ∀ (j : Nat) (o : Oper), ops[j]? = some o → (∀ e ∈ esO o, D e = true) → ∀ k ∈ (ancGo r acc).getD j [], D k = true := by
  intro r
  induction r with
  | nil =>
    intro acc hr hl hP j o ho he k hk
    have hsz : ops.size ≤ acc.length := by
      have := congrArg List.length hr
      simp at this; omega
    exact hP j o ho (Nat.lt_of_lt_of_le (Array.getElem?_eq_some_iff.1 ho).1 hsz) he k hk
  | cons q r ih =>
    intro acc hr hl hP
    have hlt : acc.length < ops.size := by
      have := congrArg List.length hr
      simp at this; omega
    have hq : ops[acc.length]? = some q := by
      have := congrArg List.head? hr
      simp only [List.head?_cons, List.head?_drop] at this
      rw [← Array.getElem?_toList]; exact this.symm
    refine ih _ ?_ (by simp; omega) ?_
    · have := congrArg List.tail hr
      simp only [List.tail_cons, List.tail_drop] at this
      rw [this, List.length_append, List.length_singleton]
    · intro j o ho hj he k hk
      rcases Nat.lt_or_ge j acc.length with h1 | h1
      · rw [List.getD_eq_getElem?_getD, List.getElem?_append_left h1, ← List.getD_eq_getElem?_getD] at hk
        exact hP j o ho h1 he k hk
      · have hje : j = acc.length := by simp at hj; omega
        subst hje
        rw [hq] at ho; injection ho with ho; subst ho
        rw [List.getD_eq_getElem?_getD, List.getElem?_append_right (Nat.le_refl _)] at hk
        simp only [Nat.sub_self, List.getElem?_cons_zero, Option.getD_some, List.mem_append, List.mem_flatMap] at hk
        rcases hk with hk | ⟨m, hm, hk⟩
        · exact he k hk
        · have hDm := he m hm
          rcases Nat.lt_or_ge m acc.length with h2 | h2
          · obtain ⟨o', ho'⟩ : ∃ o', ops[m]? = some o' := ⟨_, Array.getElem?_eq_getElem (by omega)⟩
            exact hP m o' ho' h2 (hD m o' hDm ho') k hk
          · rw [List.getD_eq_getElem?_getD, List.getElem?_eq_none h2] at hk; simp at hk
theorem anc_ok {ops : Array Oper} {D : Nat → Bool} (hD : ClosedD ops D) {j : Nat} {o : Oper} (ho : ops[j]? = some o) (he : ∀ e ∈ esO o, D e = true) {k : Nat} (hk : ((ancGo ops.toList []).getD j []).contains k = true) : D k = true :=
  ancGo_ok hD ops.toList [] rfl (Nat.zero_le _) (fun j o _ hj => by simp at hj) j o ho he k (by simpa using hk)

/-! ### The text's own run, by numbers -/
section
variable (Φ : Phi) (hid : Hid1) (l : List AOper) (s0 : St)
def resD (h : Nat × Bool) (o : AOper) (lens : List Nat) (s : St) : Option (AV × List AObj × Prop) :=
  match o.grd with
  | none => exD Φ h o lens s
  | some (t, b) => match lk s.fr t with
    | .bool c => if c = b then exD Φ h o lens s else some (.top, s.hp, True)
    | _ => none
def dflO : AOper := ⟨none, .mv (.c .top), none⟩
def stI : Nat → St × List Nat
  | 0 => (s0, [])
  | i + 1 => match resD Φ (hid.getD i (0, false)) (l.getD i dflO) ((stI i).2 ++ [(stI i).1.hp.length]) (stI i).1 with
    | some (x, hp, _) => ((pinO (l.getD i dflO) (stI i).1).put (l.getD i dflO).dst x hp, (stI i).2 ++ [(stI i).1.hp.length])
    | none => ((stI i).1, (stI i).2 ++ [(stI i).1.hp.length])
theorem stI_lens : ∀ i, (stI Φ hid l s0 i).2.length = i ∧ ∀ k, k < i → (stI Φ hid l s0 i).2.getD k 0 = (stI Φ hid l s0 k).1.hp.length := by
  intro i
  induction i with
  | zero => exact ⟨rfl, fun k hk => by omega⟩
  | succ i ih =>
    have e : (stI Φ hid l s0 (i + 1)).2 = (stI Φ hid l s0 i).2 ++ [(stI Φ hid l s0 i).1.hp.length] := by
      simp only [stI]; split <;> rfl
    rw [e]
    refine ⟨by simp [ih.1], fun k hk => ?_⟩
    rcases Nat.lt_or_ge k i with h | h
    · rw [List.getD_eq_getElem?_getD, List.getElem?_append_left (by rw [ih.1]; exact h), ← List.getD_eq_getElem?_getD]; exact ih.2 k h
    · have : k = i := by omega
      subst this
      rw [List.getD_eq_getElem?_getD, List.getElem?_append_right (by rw [ih.1]; exact Nat.le_refl _), ih.1]; simp
theorem arunD_run {K : St → Prop} (hl : hid.length = l.length) : ∀ (d i : Nat), i + d = l.length → arunD Φ (hid.drop i) (l.drop i) (stI Φ hid l s0 i).2 K (stI Φ hid l s0 i).1 →
    (∀ k, i ≤ k → k < l.length → ∃ x hp p, resD Φ (hid.getD k (0, false)) (l.getD k dflO) ((stI Φ hid l s0 k).2 ++ [(stI Φ hid l s0 k).1.hp.length]) (stI Φ hid l s0 k).1 = some (x, hp, p) ∧ p) ∧ K (stI Φ hid l s0 l.length).1 := by
  intro d
  induction d with
  | zero =>
    intro i hi h
    have : i = l.length := by omega
    subst this
    rw [List.drop_length] at h
    cases hh : hid.drop l.length <;> (rw [hh] at h; exact ⟨fun k h1 h2 => by omega, h⟩)
  | succ d ih =>
    intro i hi h
    have hil : i < l.length := by omega
    rw [List.drop_eq_getElem_cons (by omega : i < hid.length), List.drop_eq_getElem_cons hil] at h
    have e1 : hid.getD i (0, false) = hid[i]'(by omega) := by rw [List.getD_eq_getElem?_getD, List.getElem?_eq_getElem (by omega)]; rfl
    have e2 : l.getD i dflO = l[i] := by rw [List.getD_eq_getElem?_getD, List.getElem?_eq_getElem hil]; rfl
    rw [← e1, ← e2] at h
    have fin : ∀ x hp p, resD Φ (hid.getD i (0, false)) (l.getD i dflO) ((stI Φ hid l s0 i).2 ++ [(stI Φ hid l s0 i).1.hp.length]) (stI Φ hid l s0 i).1 = some (x, hp, p) → p →
        arunD Φ (hid.drop (i + 1)) (l.drop (i + 1)) ((stI Φ hid l s0 i).2 ++ [(stI Φ hid l s0 i).1.hp.length]) K ((pinO (l.getD i dflO) (stI Φ hid l s0 i).1).put (l.getD i dflO).dst x hp) →
        (∀ k, i ≤ k → k < l.length → ∃ x hp p, resD Φ (hid.getD k (0, false)) (l.getD k dflO) ((stI Φ hid l s0 k).2 ++ [(stI Φ hid l s0 k).1.hp.length]) (stI Φ hid l s0 k).1 = some (x, hp, p) ∧ p) ∧ K (stI Φ hid l s0 l.length).1 := by
      intro x hp p hr hp' hk
      have e3 : stI Φ hid l s0 (i + 1) = ((pinO (l.getD i dflO) (stI Φ hid l s0 i).1).put (l.getD i dflO).dst x hp, (stI Φ hid l s0 i).2 ++ [(stI Φ hid l s0 i).1.hp.length]) := by simp only [stI, hr]
      have := ih (i + 1) (by omega) (by rw [e3]; exact hk)
      refine ⟨fun k h1 h2 => ?_, this.2⟩
      rcases Nat.lt_or_ge i k with h3 | h3
      · exact this.1 k h3 h2
      · have : k = i := by omega
        subst this; exact ⟨x, hp, p, hr, hp'⟩
    have ex : ∀ {r : Option (AV × List AObj × Prop)}, (r = exD Φ (hid.getD i (0, false)) (l.getD i dflO) ((stI Φ hid l s0 i).2 ++ [(stI Φ hid l s0 i).1.hp.length]) (stI Φ hid l s0 i).1) → resD Φ (hid.getD i (0, false)) (l.getD i dflO) ((stI Φ hid l s0 i).2 ++ [(stI Φ hid l s0 i).1.hp.length]) (stI Φ hid l s0 i).1 = r →
        aq r (pinO (l.getD i dflO) (stI Φ hid l s0 i).1) (l.getD i dflO).dst (arunD Φ (hid.drop (i + 1)) (l.drop (i + 1)) ((stI Φ hid l s0 i).2 ++ [(stI Φ hid l s0 i).1.hp.length]) K) →
        (∀ k, i ≤ k → k < l.length → ∃ x hp p, resD Φ (hid.getD k (0, false)) (l.getD k dflO) ((stI Φ hid l s0 k).2 ++ [(stI Φ hid l s0 k).1.hp.length]) (stI Φ hid l s0 k).1 = some (x, hp, p) ∧ p) ∧ K (stI Φ hid l s0 l.length).1 := by
      intro r _ hr h
      cases r with
      | none => exact h.elim
      | some r => obtain ⟨x, hp, p⟩ := r; exact fin x hp p hr h.1 h.2
    rw [arunD_eq] at h
    cases hg : (l.getD i dflO).grd with
    | none =>
      rw [hg] at h
      have hpin : pinO (l.getD i dflO) (stI Φ hid l s0 i).1 = (stI Φ hid l s0 i).1 := by unfold pinO; rw [hg]
      exact ex rfl (by unfold resD; rw [hg]) (by rw [hpin]; exact h)
    | some tb =>
      obtain ⟨t, b⟩ := tb
      rw [hg] at h
      obtain ⟨c, hc, h⟩ := gdQ_ok h
      have hpin : ∀ b', c = b' → (stI Φ hid l s0 i).1.pin t b' = pinO (l.getD i dflO) (stI Φ hid l s0 i).1 := by
        intro b' e; subst e; unfold pinO St.pin; rw [hg]; simp only [hc]
      by_cases e : c = b
      · exact ex rfl (by unfold resD; rw [hg]; simp only [hc]; rw [if_pos e]) (by rw [← hpin b e]; exact h.1 e)
      · have e' : c = !b := by cases c <;> cases b <;> simp_all
        exact fin .top _ True (by unfold resD; rw [hg]; simp only [hc]; rw [if_neg e]) trivial (by rw [← hpin _ e']; exact h.2 e')
end
end Go.Proofs.Ytbefhofmbiedgaa
