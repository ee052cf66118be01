/- Objects under other numbers; values that lean on no stable memory; what a call leaves, put back into the caller's heap. Over any program; no condition. -/
import Derived.Test.YtbefhofmbiedgaaA13
namespace Go.Proofs.Ytbefhofmbiedgaa
set_option linter.all false
open Go.RowKit

def mapO {α β : Type} (f : α → Option β) : List α → Option (List β)
  | [] => some []
  | a :: r => match f a, mapO f r with
    | some b, some bs => some (b :: bs)
    | _, _ => none
theorem mapO_get {α β : Type} {f : α → Option β} : ∀ {l : List α} {m : List β}, mapO f l = some m → m.length = l.length ∧ ∀ (i : Nat) (x : α), l[i]? = some x → ∃ y, m[i]? = some y ∧ f x = some y := by
  intro l
  induction l with
  | nil => intro m h; simp only [mapO, Option.some.injEq] at h; subst h; exact ⟨rfl, fun i x hx => by simp at hx⟩
  | cons a l ih =>
    intro m h
    simp only [mapO] at h
    split at h
    · rename_i b bs hb hbs
      injection h with h; subst h
      obtain ⟨h1, h2⟩ := ih hbs
      refine ⟨by simp [h1], fun i x hx => ?_⟩
      cases i with
      | zero => simp only [List.getElem?_cons_zero, Option.some.injEq] at hx; subst hx; exact ⟨b, rfl, hb⟩
      | succ i => simpa using h2 i x (by simpa using hx)
    · cases h

/-- Numbers of objects, turned. -/
def ren (σ : Nat → Option Nat) : Nat → AV → Option AV
  | 0, _ => none
  | d + 1, x => match x with
    | .own id v => (σ id).map fun j => .own j v
    | .ownv id v i m => (σ id).map fun j => .ownv j v i m
    | .ref id o off => (σ id).map fun j => .ref j o off
    | .rowp id v i z o off => (σ id).map fun j => .rowp j v i z o off
    | .agg ps => (mapO (fun p => (ren σ d p.2).map fun y => (p.1, y)) ps).map .agg
    | .tup xs => (mapO (ren σ d) xs).map .tup
    | .fn f a c => match mapO (ren σ d) a, mapO (ren σ d) c with
      | some a', some c' => some (.fn f a' c')
      | _, _ => none
    | .iface t x => (ren σ d x).map (.iface t)
    | x => some x
/-- It leans on no stable memory. -/
def flatB : Nat → AV → Bool
  | 0, _ => false
  | d + 1, x => match x with
    | .sl _ _ | .ptr _ _ _ _ => false
    | .agg ps => ps.all fun p => flatB d p.2
    | .tup xs => xs.all (flatB d)
    | .fn _ a c => a.all (flatB d) && c.all (flatB d)
    | .iface _ x => flatB d x
    | _ => true
section
variable {w : World} {S S' : Nat → Prop} {ρ ρ' : Rho}
theorem ren_cs {σ : Nat → Option Nat} (hσ : ∀ i j, σ i = some j → ∀ v L, ρ i v = some L → ρ' j v = some L) : ∀ (d : Nat) {x y : AV} {us : List Value}, ren σ d x = some y → Cs w S ρ x us → Cs w S ρ' y us ∧ y.multi = x.multi ∧ (∀ xs, x = .tup xs → False) := by
  intro d
  induction d with
  | zero => intro x y us h; cases h
  | succ d ih =>
    intro x y us h hc
    cases hc <;> simp only [ren] at h
    case top h1 => injection h with h; subst h; exact ⟨.top _ h1, rfl, fun _ e => by cases e⟩
    case int => injection h with h; subst h; exact ⟨.int _ _, rfl, fun _ e => by cases e⟩
    case bool => injection h with h; subst h; exact ⟨.bool _, rfl, fun _ e => by cases e⟩
    case str => injection h with h; subst h; exact ⟨.str _, rfl, fun _ e => by cases e⟩
    case con h1 => injection h with h; subst h; exact ⟨.con _ h1, rfl, fun _ e => by cases e⟩
    case blob h1 => injection h with h; subst h; exact ⟨.blob _ h1, rfl, fun _ e => by cases e⟩
    case sl0 h1 => injection h with h; subst h; exact ⟨.sl0 _ _ _ h1, rfl, fun _ e => by cases e⟩
    case sl h1 h2 h3 h4 h5 h6 => injection h with h; subst h; exact ⟨.sl _ _ _ _ _ _ h1 h2 h3 h4 h5 h6, rfl, fun _ e => by cases e⟩
    case ptr h1 h2 h3 h4 => injection h with h; subst h; exact ⟨.ptr _ _ _ _ _ _ _ h1 h2 h3 h4, rfl, fun _ e => by cases e⟩
    case agg ps uss h1 h2 h3 =>
      obtain ⟨qs, hq, rfl⟩ := Option.map_eq_some_iff.1 h
      obtain ⟨k1, k2⟩ := mapO_get hq
      refine ⟨.agg qs uss (by omega) (fun i hi => ?_) (fun i hi => ?_), rfl, fun _ e => by cases e⟩
      · obtain ⟨y, y1, y2⟩ := k2 i _ (List.getElem?_eq_getElem (by omega))
        obtain ⟨z, z1, z2⟩ := Option.map_eq_some_iff.1 y2
        have := h2 i (by omega)
        rw [List.getD_eq_getElem?_getD, List.getD_eq_getElem?_getD, List.getElem?_eq_getElem (show i < ps.length by omega)] at this
        rw [List.getD_eq_getElem?_getD, List.getD_eq_getElem?_getD, y1, ← z2]
        exact this
      · obtain ⟨y, y1, y2⟩ := k2 i _ (List.getElem?_eq_getElem (by omega))
        obtain ⟨z, z1, z2⟩ := Option.map_eq_some_iff.1 y2
        have := h3 i (by omega)
        rw [List.getD_eq_getElem?_getD (l := ps), List.getElem?_eq_getElem (show i < ps.length by omega)] at this
        rw [List.getD_eq_getElem?_getD (l := qs), y1, ← z2]
        exact (ih z1 this).1
    case own => rename_i h1; obtain ⟨j, hj, rfl⟩ := Option.map_eq_some_iff.1 h; exact ⟨.own j _ _ (hσ _ _ hj _ _ (by assumption)), rfl, fun _ e => by cases e⟩
    case ownv => rename_i h1 h2 h3; obtain ⟨j, hj, rfl⟩ := Option.map_eq_some_iff.1 h; exact ⟨.ownv j _ _ _ _ _ (hσ _ _ hj _ _ (by assumption)) (by assumption) (by assumption), rfl, fun _ e => by cases e⟩
    case ref => rename_i h1 h2; obtain ⟨j, hj, rfl⟩ := Option.map_eq_some_iff.1 h; exact ⟨.ref j _ _ _ _ (hσ _ _ hj _ _ (by assumption)) (by assumption), rfl, fun _ e => by cases e⟩
    case rowp => rename_i h1 h2; obtain ⟨j, hj, rfl⟩ := Option.map_eq_some_iff.1 h; exact ⟨.rowp j _ _ _ _ _ _ _ (hσ _ _ hj _ _ (by assumption)) (by assumption), rfl, fun _ e => by cases e⟩
    case fn f first cap us vs h1 h2 h3 h4 =>
      split at h
      · rename_i a' c' ha hc
        injection h with h; subst h
        obtain ⟨k1, k2⟩ := mapO_get ha
        obtain ⟨m1, m2⟩ := mapO_get hc
        refine ⟨.fn f a' c' us vs (by omega) (by omega) (fun i hi => ?_) (fun i hi => ?_), rfl, fun _ e => by cases e⟩
        · obtain ⟨y, y1, y2⟩ := k2 i _ (List.getElem?_eq_getElem (by omega))
          have := h3 i (by omega)
          rw [List.getD_eq_getElem?_getD (l := first), List.getElem?_eq_getElem (show i < first.length by omega)] at this
          rw [List.getD_eq_getElem?_getD (l := a'), y1]
          exact (ih y2 this).1
        · obtain ⟨y, y1, y2⟩ := m2 i _ (List.getElem?_eq_getElem (by omega))
          have := h4 i (by omega)
          rw [List.getD_eq_getElem?_getD (l := cap), List.getElem?_eq_getElem (show i < cap.length by omega)] at this
          rw [List.getD_eq_getElem?_getD (l := c'), y1]
          exact (ih y2 this).1
      · cases h
    case iface t x us h1 =>
      obtain ⟨z, hz, rfl⟩ := Option.map_eq_some_iff.1 h
      obtain ⟨k1, k2, k3⟩ := ih hz h1
      refine ⟨?_, rfl, fun _ e => by cases e⟩
      have : wrapv x us = wrapv z us := by unfold wrapv; rw [k2]
      rw [this]
      exact .iface t z us k1
theorem ren_vl {σ : Nat → Option Nat} (hσ : ∀ i j, σ i = some j → ∀ v L, ρ i v = some L → ρ' j v = some L) {d : Nat} {x y : AV} {v : Value} (h : ren σ d x = some y) (hv : Vl w S ρ x v) : Vl w S ρ' y v := by
  cases d with
  | zero => cases h
  | succ d =>
    have one : ∀ {d : Nat} {x y : AV} {v : Value}, ren σ d x = some y → Vl1 w S ρ x v → Vl1 w S ρ' y v := by
      intro d x y v h hv
      rcases hv with rfl | ⟨us, hc, rfl⟩
      · cases d with
        | zero => cases h
        | succ d => simp only [ren, Option.some.injEq] at h; subst h; exact .inl rfl
      · obtain ⟨k1, k2, _⟩ := ren_cs hσ d h hc
        exact .inr ⟨us, k1, by unfold wrapv; rw [k2]⟩
    cases x
    case tup xs =>
      simp only [ren] at h
      obtain ⟨ys, hy, rfl⟩ := Option.map_eq_some_iff.1 h
      obtain ⟨vs, e, h2, h3⟩ := hv
      obtain ⟨k1, k2⟩ := mapO_get hy
      refine ⟨vs, e, by omega, fun i hi => ?_⟩
      obtain ⟨y, y1, y2⟩ := k2 i _ (List.getElem?_eq_getElem (by omega))
      have := h3 i (by omega)
      rw [List.getD_eq_getElem?_getD (l := xs), List.getElem?_eq_getElem (show i < xs.length by omega)] at this
      rw [List.getD_eq_getElem?_getD (l := ys), y1]
      exact one y2 this
    all_goals exact (one h hv).vl
theorem flat_cs : ∀ (d : Nat) {x : AV} {us : List Value}, flatB d x = true → Cs w S ρ x us → Cs w S' ρ x us := by
  intro d
  induction d with
  | zero => intro x us h; cases h
  | succ d ih =>
    intro x us h hc
    cases hc with
    | top us h1 => exact .top us h1
    | int k n => exact .int k n
    | bool b => exact .bool b
    | str l => exact .str l
    | con x h1 => exact .con x h1
    | blob _ h1 => exact .blob _ h1
    | agg ps uss h1 h2 h3 =>
      simp only [flatB, List.all_eq_true] at h
      refine .agg ps uss h1 h2 fun i hi => ih (h _ ?_) (h3 i hi)
      rw [List.getD_eq_getElem?_getD, List.getElem?_eq_getElem hi]
      exact List.getElem_mem hi
    | sl0 => cases h
    | sl => cases h
    | ptr => cases h
    | own id ver L h1 => exact .own id ver L h1
    | ownv id ver i m L A h1 h2 h3 => exact .ownv id ver i m L A h1 h2 h3
    | ref id o off g L h1 h2 => exact .ref id o off g L h1 h2
    | rowp id ver i z o off g L h1 h2 => exact .rowp id ver i z o off g L h1 h2
    | fn f first cap us vs h1 h2 h3 h4 =>
      simp only [flatB, Bool.and_eq_true, List.all_eq_true] at h
      refine .fn f first cap us vs h1 h2 (fun i hi => ih (h.1 _ ?_) (h3 i hi)) (fun i hi => ih (h.2 _ ?_) (h4 i hi))
      · rw [List.getD_eq_getElem?_getD, List.getElem?_eq_getElem hi]; exact List.getElem_mem hi
      · rw [List.getD_eq_getElem?_getD, List.getElem?_eq_getElem hi]; exact List.getElem_mem hi
    | iface t x us h1 => exact .iface t x us (ih h h1)
theorem flat_vl {d : Nat} {x : AV} {v : Value} (h : flatB d x = true) (hv : Vl w S ρ x v) : Vl w S' ρ x v := by
  have one : ∀ {d : Nat} {x : AV} {v : Value}, flatB d x = true → Vl1 w S ρ x v → Vl1 w S' ρ x v := by
    intro d x v h hv
    rcases hv with rfl | ⟨us, hc, rfl⟩
    · exact .inl rfl
    · exact .inr ⟨us, flat_cs d h hc, rfl⟩
  cases x
  case tup xs =>
    cases d with
    | zero => cases h
    | succ d =>
      simp only [flatB, List.all_eq_true] at h
      obtain ⟨vs, e, h2, h3⟩ := hv
      refine ⟨vs, e, h2, fun i hi => one (h _ ?_) (h3 i hi)⟩
      rw [List.getD_eq_getElem?_getD, List.getElem?_eq_getElem hi]; exact List.getElem_mem hi
  all_goals exact (one h hv).vl

def renObj (σ : Nat → Option Nat) : AObj → Option AObj
  | .cells t ps => (mapO (fun p => (ren σ 4 p.2).map fun y => (p.1, y)) ps).map (.cells t)
  | o => some o
/-- It leans on no stable memory. -/
def flatO : AObj → Prop
  | .cells _ ps => ∀ p ∈ ps, flatB 4 p.2 = true
  | .row _ _ _ xs => ∀ x ∈ xs, flatB 4 x = true
  | .froz _ _ _ => False
  | .gone => True
theorem css_of_all {ps : List (Nat × AV)} {us : List Value} (h : ∀ p ∈ ps, flatB 4 p.2 = true) (hc : Css w S ρ ps us) : Css w S' ρ ps us := by
  induction ps generalizing us with
  | nil => exact hc
  | cons p ps ih =>
    obtain ⟨s, x⟩ := p
    obtain ⟨u1, u2, rfl, h1, h2, h3⟩ := hc
    exact ⟨u1, u2, rfl, h1, flat_cs 4 (h (s, x) (by simp)) h2, ih (fun p hp => h p (by simp [hp])) h3⟩
theorem ren_css {σ : Nat → Option Nat} (hσ : ∀ i j, σ i = some j → ∀ v L, ρ i v = some L → ρ' j v = some L) {ps qs : List (Nat × AV)} {us : List Value} (h : mapO (fun p => (ren σ 4 p.2).map fun y => (p.1, y)) ps = some qs) (hc : Css w S ρ ps us) : Css w S ρ' qs us := by
  induction ps generalizing us qs with
  | nil => simp only [mapO, Option.some.injEq] at h; subst h; exact hc
  | cons p ps ih =>
    obtain ⟨s, x⟩ := p
    simp only [mapO] at h
    split at h
    · rename_i b bs hb hbs
      injection h with h; subst h
      obtain ⟨y, hy, rfl⟩ := Option.map_eq_some_iff.1 hb
      obtain ⟨u1, u2, rfl, h1, h2, h3⟩ := hc
      exact ⟨u1, u2, rfl, h1, (ren_cs hσ 4 hy h2).1, ih hbs h3⟩
    · cases h
/-- An object under another number, over other stable memory. -/
theorem renObj_ok {σ : Nat → Option Nat} {i j : Nat} {o o' : AObj} (hσ : ∀ i j, σ i = some j → ∀ v L, ρ i v = some L → ρ' j v = some L) (hij : σ i = some j) (hn : ∀ v, ρ i v = none → ρ' j v = none) (h : renObj σ o = some o') (ho : ObjOk w S ρ i o)
    (hS : ∀ b, o.blk ρ i = some b → S' b → S b) (hst : (∀ b, S b → S' b) ∨ flatO o) : ObjOk w S' ρ' j o' ∧ o'.ver = o.ver ∧ (∀ b, o'.blk ρ' j = some b → o.blk ρ i = some b) := by
  cases o with
  | cells t ps =>
    simp only [renObj] at h
    obtain ⟨qs, hq, rfl⟩ := Option.map_eq_some_iff.1 h
    obtain ⟨g, us, h1, h2, h3, h4⟩ := ho
    have h1' := hσ i j hij _ _ h1
    have hb : (AObj.cells t ps).blk ρ i = some g := by simp [AObj.blk, h1, ablk]
    have h3' : Css w S' ρ ps us := by
      rcases hst with hst | hst
      · exact h3.ext ⟨fun _ _ => rfl, hst, fun _ _ _ h => h⟩
      · exact css_of_all hst h3
    refine ⟨⟨g, us, h1', h2, ren_css hσ hq h3', fun hs => h4 (hS g hb hs)⟩, rfl, fun b hbb => ?_⟩
    simp only [AObj.blk, h1', Option.bind_some, ablk, Option.map_some] at hbb
    rw [hb]; exact hbb
  | row e sz ver xs =>
    simp only [renObj, Option.some.injEq] at h; subst h
    obtain ⟨L, us, h1, h2, h3, h4, h5, h6⟩ := ho
    have h1' := hσ i j hij _ _ h1
    have hb : ∀ g, ablk L.A = some g → (AObj.row e sz ver xs).blk ρ i = some g := fun g hg => by simp [AObj.blk, h1, hg]
    have h5' : Css w S' rho0 (prs sz xs) us := by
      rcases hst with hst | hst
      · exact h5.ext ⟨fun _ _ => rfl, hst, fun _ _ _ h => h⟩
      · refine css_of_all (fun p hp => ?_) h5
        obtain ⟨x, hx, rfl⟩ := List.mem_map.1 hp
        exact hst x hx
    refine ⟨⟨L, us, h1', h2, h3, h4, h5', fun g hg hs => h6 g hg (hS g (hb g hg) hs)⟩, rfl, fun b hbb => ?_⟩
    simp only [AObj.blk, h1', Option.bind_some] at hbb
    exact hb b hbb
  | froz sz ver xs =>
    simp only [renObj, Option.some.injEq] at h; subst h
    obtain ⟨L, h1, h2, h3, h4⟩ := ho
    rcases hst with hst | hst
    · exact ⟨⟨L, hσ i j hij _ _ h1, h2, h3, h4.ext (fun _ _ => rfl) hst (fun _ _ _ h => by cases h)⟩, rfl, fun b hbb => by cases hbb⟩
    · exact hst.elim
  | gone =>
    simp only [renObj, Option.some.injEq] at h; subst h
    exact ⟨fun v => hn v (ho v), rfl, fun b hbb => by cases hbb⟩
end
end Go.Proofs.Ytbefhofmbiedgaa
