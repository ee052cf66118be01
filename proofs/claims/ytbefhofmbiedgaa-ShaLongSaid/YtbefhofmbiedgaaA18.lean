/- One step of the abstract machine, and that the model does it. Over any program; no condition. -/
import Derived.Test.YtbefhofmbiedgaaA17
namespace Go.Proofs.Ytbefhofmbiedgaa
set_option linter.all false
open Go.RowKit

abbrev Phi := FuncId → Option (List Bool × Spec)
def FnIn (P : Program) (f : FuncId) : Prop := ∃ fn, P.funcs[f]? = some fn ∧ (fn.name == "runtime.NumGoroutine") = false ∧ fn.body.isNone = false
def PhiOk (P : Program) (Φ : Phi) : Prop := ∀ f m sp, Φ f = some (m, sp) → FnOk P f sp ∧ FnIn P f

def setAll : List AObj → List Nat → List AObj → List AObj
  | hp, i :: is, o :: os => setAll (hp.set i o) is os
  | hp, _, _ => hp
def addNew (l : List Nat) : List Nat → List Nat
  | [] => l
  | x :: r => if l.contains x then addNew l r else addNew (l ++ [x]) r
def idsOf : Nat → AV → List Nat
  | 0, _ => []
  | d + 1, x => match x with
    | .own id _ => [id]
    | .ownv id _ _ _ => [id]
    | .ref id _ _ => [id]
    | .rowp id _ _ _ _ _ => [id]
    | .agg ps => ps.flatMap fun p => idsOf d p.2
    | .tup xs => xs.flatMap (idsOf d)
    | .fn _ a c => a.flatMap (idsOf d) ++ c.flatMap (idsOf d)
    | .iface _ x => idsOf d x
    | _ => []
def idsObj : AObj → List Nat
  | .cells _ ps => ps.flatMap fun p => idsOf 4 p.2
  | _ => []
def closeIds (hp : List AObj) : Nat → List Nat → List Nat
  | 0, l => l
  | d + 1, l => closeIds hp d (addNew l (l.flatMap fun i => idsObj (hp.getD i .gone)))
def place (hp : List AObj) (ids : List Nat) (os : List AObj) : List AObj := setAll hp ids os ++ os.drop ids.length

/-- What a call leaves: its value, the objects lent, all objects behind it, and what is to be shown. -/
def acall3 (n : Nat) (brw ids : List Nat) : Option Ret → Option (AV × List Nat × List AObj × Prop)
  | some r => match ren (tau n ids r.hp.length) 4 r.v, mapO (renObj (tau n ids r.hp.length)) r.hp, flatC brw r.v r.hp with
    | some x, some os, some q => if ids.length ≤ r.hp.length then some (x, ids, os, r.pre ∧ q) else none
    | _, _, _ => none
  | none => none
def acall2 (hp : List AObj) (n : Nat) (sp : Spec) (as brw ids : List AV × List Nat) : Option (AV × List Nat × List AObj × Prop) :=
  match mapO (ren (posOf ids.2) 4) as.1, lentO hp ids.2 with
  | some as2, some hc => if okIds ids.2 brw.2 then acall3 n brw.2 ids.2 (sp as2 hc) else none
  | _, _ => none
def acall1 (hp : List AObj) (n : Nat) (sp : Spec) : Option (List AV × List Nat) → Option (AV × List Nat × List AObj × Prop)
  | some (as, brw) => acall2 hp n sp (as, []) ([], brw) ([], closeIds hp 2 (addNew [] (as.flatMap (idsOf 4))))
  | none => none
def acall0 (hp : List AObj) (n : Nat) (as : List AV) : Option (List Bool × Spec) → Option (AV × List Nat × List AObj × Prop)
  | some (m, sp) => acall1 hp n sp (bor hp m as)
  | none => none

section
variable {P : Program} {Φ : Phi} {F : Nat → Prop} {w0 w : World} {S : Nat → Prop} {ρ : Rho} {hp hpM hp2 os : List AObj}
theorem acall0_ok {f : FuncId} (hΦ : PhiOk P Φ) {as : List AV} {args : List Value} {ids : List Nat} {x : AV} {p : Prop} {n : Nat} (h : acall0 hpM n as (Φ f) = some (x, ids, os, p)) (hp' : p) (H : HeapOk F w0 S ρ hp w)
    (hM : ∀ (i : Nat) (o : AObj), hpM[i]? = some o → o ≠ .gone → hp[i]? = some o) (hMg : ∀ (i : Nat), i ∈ ids → hpM[i]? = hp[i]?) (ha : ArgsOk w S ρ as args)
    (hb : ids.length ≤ os.length → nodupB ids = true → (∀ i ∈ ids, i < hp.length) → (∀ (k : Nat) (o : AObj), hp2[k]? = some o → (∃ j, tau n ids os.length j = some k ∧ os[j]? = some o) ∨ (hp[k]? = some o ∧ ∀ j, tau n ids os.length j ≠ some k)) ∧
      (∀ k, n ≤ k → k < n + (os.length - ids.length) → (∀ v, ρ k v = none) ∧ k < hp2.length ∧ ∀ i : Nat, ids[i]? ≠ some k) ∧ hp.length ≤ hp2.length) :
    Calls P f args.toArray w fun e w' => ∃ v S' ρ', e = .returned v ∧ Vl w' S' ρ' x v ∧ HeapOk F w0 S' ρ' hp2 w' ∧ Ext w w' S S' ρ ρ' ∧ (∀ b, S' b → S b ∨ F b ∨ w0.heap.size ≤ b) := by
  cases hf : Φ f with
  | none => rw [hf] at h; cases h
  | some ms =>
    obtain ⟨m, sp⟩ := ms
    rw [hf] at h
    simp only [acall0, acall1] at h
    split at h
    · rename_i as1 brw hbor
      simp only [acall2] at h
      split at h
      · rename_i as2 hc h2 h3
        split at h
        · rename_i h4
          unfold acall3 at h
          split at h
          · rename_i r h5
            split at h
            · rename_i x' os' q h6 h7 h8
              split at h
              · rename_i hle
                simp only [Option.some.injEq, Prod.mk.injEq] at h
                obtain ⟨rfl, rfl, rfl, rfl⟩ := h
                obtain ⟨o1, o2⟩ := mapO_get h7
                have h3' : lentO hp (closeIds hpM 2 (addNew [] (as1.flatMap (idsOf 4)))) = some hc := by
                  rw [← h3]
                  unfold lentO
                  have gen : ∀ (σ : Nat → Option Nat) (l : List Nat), (∀ j ∈ l, hpM[j]? = hp[j]?) → mapO (fun j => match hp[j]? with | some o => renObj σ o | none => none) l = mapO (fun j => match hpM[j]? with | some o => renObj σ o | none => none) l := by
                    intro σ l
                    induction l with
                    | nil => intro _; rfl
                    | cons a l ih => intro hh; simp only [mapO]; rw [hh a (by simp), ih (fun j hj => hh j (by simp [hj]))]
                  exact gen _ _ hMg
                have hlt : ∀ i ∈ closeIds hpM 2 (addNew [] (as1.flatMap (idsOf 4))), i < hp.length := by
                  intro i hi
                  obtain ⟨j, hj, e⟩ := List.getElem_of_mem hi
                  obtain ⟨y, y1, y2⟩ := (mapO_get h3').2 j i (by rw [List.getElem?_eq_getElem hj, e])
                  split at y2
                  · rename_i o ho; exact (List.getElem?_eq_some_iff.1 ho).1
                  · cases y2
                have hnd : nodupB (closeIds hpM 2 (addNew [] (as1.flatMap (idsOf 4)))) = true := by
                  simp only [okIds, Bool.and_eq_true] at h4; exact h4.1
                obtain ⟨b1, b2, b3⟩ := hb (by rw [o1]; exact hle) hnd hlt
                rw [o1] at b1 b2
                exact call_gen (hΦ f m sp hf).1 H hM ha hbor h2 h3' h4 h5 hp'.1 h6 h7 h8 hp'.2 b1 b2 b3
              · cases h
            · cases h
          · cases h
        · cases h
      · cases h
    · cases h
theorem setAll_get : ∀ (ids : List Nat) (os hp : List AObj), nodupB ids = true → (∀ i ∈ ids, i < hp.length) → ids.length ≤ os.length → ∀ k : Nat, (setAll hp ids os)[k]? = match posOf ids k with
    | some j => os[j]?
    | none => hp[k]? := by
  intro ids
  induction ids with
  | nil => intro os hp _ _ _ k; simp only [setAll, posOf]
  | cons i is ih =>
    intro os hp hnd hlt hle k
    cases os with
    | nil => simp at hle
    | cons o os =>
      simp only [nodupB, Bool.and_eq_true, Bool.not_eq_true', List.contains_eq_mem, decide_eq_false_iff_not] at hnd
      simp only [setAll]
      rw [ih os (hp.set i o) hnd.2 (fun j hj => by rw [List.length_set]; exact hlt j (by simp [hj])) (by simpa using hle) k]
      simp only [posOf]
      by_cases e : i = k
      · subst e
        have : posOf is i = none := by
          cases hp : posOf is i with
          | none => rfl
          | some j => exact absurd (List.mem_of_getElem? (posOf_ok hp)) hnd.1
        rw [this]
        simp [hlt i (by simp)]
      · rw [if_neg e]
        cases hp : posOf is k with
        | none => simp [List.getElem?_set_ne e]
        | some j => simp
theorem setAll_length : ∀ (ids : List Nat) (os hp : List AObj), (setAll hp ids os).length = hp.length := by
  intro ids
  induction ids with
  | nil => intro os hp; simp only [setAll]
  | cons i is ih =>
    intro os hp
    cases os with
    | nil => simp only [setAll]
    | cons o os => simp only [setAll, ih, List.length_set]
theorem place_ok (H : HeapOk F w0 S ρ hp w) {ids : List Nat} (h1 : ids.length ≤ os.length) (h2 : nodupB ids = true) (h3 : ∀ i ∈ ids, i < hp.length) :
    (∀ (k : Nat) (o : AObj), (place hp ids os)[k]? = some o → (∃ j, tau hp.length ids os.length j = some k ∧ os[j]? = some o) ∨ (hp[k]? = some o ∧ ∀ j, tau hp.length ids os.length j ≠ some k)) ∧
      (∀ k, hp.length ≤ k → k < hp.length + (os.length - ids.length) → (∀ v, ρ k v = none) ∧ k < (place hp ids os).length ∧ ∀ i : Nat, ids[i]? ≠ some k) ∧ hp.length ≤ (place hp ids os).length := by
  have hl := setAll_length ids os hp
  refine ⟨fun k o ho => ?_, fun k hk hk2 => ⟨H.new k hk, ?_, fun i hi => ?_⟩, ?_⟩
  · unfold place at ho
    rcases Nat.lt_or_ge k hp.length with hlt | hge
    · rw [List.getElem?_append_left (by omega), setAll_get ids os hp h2 h3 h1] at ho
      cases hp : posOf ids k with
      | some j =>
        rw [hp] at ho
        left
        refine ⟨j, ?_, ho⟩
        have := posOf_ok hp
        unfold tau; rw [if_pos (List.getElem?_eq_some_iff.1 this).1]; exact this
      | none =>
        rw [hp] at ho
        right
        refine ⟨ho, fun j hj => ?_⟩
        unfold tau at hj
        split at hj
        · exact posOf_none hp j hj
        · split at hj
          · injection hj with hj; omega
          · cases hj
    · rw [List.getElem?_append_right (by omega), hl, List.getElem?_drop] at ho
      left
      refine ⟨ids.length + (k - hp.length), ?_, ho⟩
      have := (List.getElem?_eq_some_iff.1 ho).1
      unfold tau
      rw [if_neg (by omega), if_pos this]
      congr 1; omega
  · unfold place; rw [List.length_append, hl, List.length_drop]; omega
  · have := h3 k (List.mem_of_getElem? hi); omega
  · unfold place; rw [List.length_append, hl]; omega
end
end Go.Proofs.Ytbefhofmbiedgaa
