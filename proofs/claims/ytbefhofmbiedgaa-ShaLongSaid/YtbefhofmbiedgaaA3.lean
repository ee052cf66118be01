/- Operations that only read, on abstract values. Over any program; no condition. -/
import Derived.Test.YtbefhofmbiedgaaA2
import Derived.Stop.BytesEq
import Derived.Laws.IdiomCopy
import Derived.WalkLawsBesides
namespace Go.Proofs.Ytbefhofmbiedgaa
set_option linter.all false
open Go.RowKit

def ofC : Value → AV
  | .int k n => .int k n
  | .bool b => .bool b
  | .string s => .str s.data.toList
  | v => if v.oneCell' then .con v else .top
theorem vl_ofC {w : World} {S : Nat → Prop} {ρ : Rho} (v : Value) : Vl w S ρ (ofC v) v := by
  cases v
  case int k n => exact Vl.int' k n
  case bool b => exact Vl.bool' b
  case string s => have := Vl.str' (w := w) (S := S) (ρ := ρ) s.data.toList; simpa [ofC] using this
  all_goals first | exact Vl.con' _ rfl | exact Vl.top _
theorem cs_ofC {w : World} {S : Nat → Prop} {ρ : Rho} (v : Value) (h : v.oneCell' = true) : Cs w S ρ (ofC v) [v] := by
  cases v
  case int k n => exact .int k n
  case bool b => exact .bool b
  case string s => have := Cs.str (w := w) (S := S) (ρ := ρ) s.data.toList; simpa [ofC] using this
  case agg => cases h
  case tuple => cases h
  all_goals exact .con _ rfl
def opd : Operand → Opd
  | .tmp t => .t t
  | .const v => .c (ofC v)
  | .global g => .c (.con (.pointer (some ⟨g, 0, none⟩)))
  | .func f => .c (.fn (.func f) [] [])
theorem ev_ok {w : World} {S : Nat → Prop} {ρ : Rho} {s : St} {a : Act} (h : FrOk w S ρ s.fr a.tmps) (x : Operand) : Vl w S ρ (s.ev (opd x)) (a.eval x) := by
  cases x with
  | tmp t => exact h t
  | const v => exact vl_ofC v
  | global g => exact Vl.con' _ rfl
  | func f => exact .inr ⟨_, .fn (.func f) [] [] [] [] rfl rfl (fun i hi => by simp at hi) (fun i hi => by simp at hi), rfl⟩

/-- How a variable of a type is read: one cell; an array of n cells; a struct of n cells. -/
inductive Rt where
  | one (z : AV)
  | arr (n : Nat)
  | st (n : Nat)

/-! ### Parts at an offset -/
def pt : List (Nat × AV) → Nat → Option (Nat × AV)
  | [], _ => none
  | (s, x) :: ps, o => if o = 0 then some (s, x) else if s ≤ o then pt ps (o - s) else none
def tk : List (Nat × AV) → Nat → Option (List (Nat × AV))
  | [], n => if n = 0 then some [] else none
  | (s, x) :: ps, n => if n = 0 then some [] else if s ≤ n then (tk ps (n - s)).map ((s, x) :: ·) else none
def subp : List (Nat × AV) → Nat → Nat → Option (List (Nat × AV))
  | [], o, n => if o = 0 ∧ n = 0 then some [] else none
  | (s, x) :: ps, o, n => if o = 0 then tk ((s, x) :: ps) n else if s ≤ o then subp ps (o - s) n else none
section
variable {w : World} {S : Nat → Prop} {ρ : Rho}
theorem pt_ok {ps : List (Nat × AV)} {o s : Nat} {x : AV} {us : List Value} (h : Css w S ρ ps us) (hp : pt ps o = some (s, x)) : Cs w S ρ x ((us.drop o).take s) ∧ o + s ≤ us.length := by
  induction ps generalizing o us with
  | nil => cases hp
  | cons p ps ih =>
    obtain ⟨s', y⟩ := p
    obtain ⟨u1, u2, rfl, h1, h2, h3⟩ := h
    simp only [pt] at hp
    split at hp
    · rename_i ho; subst ho; injection hp with hp; injection hp with e1 e2; subst e1 e2 h1
      exact ⟨by simpa using h2, by simp⟩
    · split at hp
      · rename_i hs
        obtain ⟨k1, k2⟩ := ih h3 hp
        refine ⟨?_, by simp; omega⟩
        have : (u1 ++ u2).drop o = u2.drop (o - s') := by rw [← h1, List.drop_append_of_le_length_left' u1 u2 (by omega)]
        rw [this]; exact k1
      · cases hp
where
  List.drop_append_of_le_length_left' (u1 u2 : List Value) {o : Nat} (h : u1.length ≤ o) : (u1 ++ u2).drop o = u2.drop (o - u1.length) := by
    rw [List.drop_append, List.drop_of_length_le h, List.nil_append]
theorem tk_ok {ps qs : List (Nat × AV)} {n : Nat} {us : List Value} (h : Css w S ρ ps us) (hp : tk ps n = some qs) : Css w S ρ qs (us.take n) ∧ n ≤ us.length := by
  induction ps generalizing n us qs with
  | nil =>
    simp only [tk] at hp
    split at hp
    · rename_i e; subst e; injection hp with hp; subst hp; exact ⟨by simp [Css], Nat.zero_le _⟩
    · cases hp
  | cons p ps ih =>
    obtain ⟨s', y⟩ := p
    obtain ⟨u1, u2, rfl, h1, h2, h3⟩ := h
    simp only [tk] at hp
    split at hp
    · rename_i e; subst e; injection hp with hp; subst hp; exact ⟨by simp [Css], Nat.zero_le _⟩
    · split at hp
      · rename_i hs
        cases hq : tk ps (n - s') with
        | none => rw [hq] at hp; cases hp
        | some qs' =>
          rw [hq] at hp; injection hp with hp; subst hp
          obtain ⟨k1, k2⟩ := ih h3 hq
          refine ⟨⟨u1, u2.take (n - s'), ?_, h1, h2, k1⟩, by simp; omega⟩
          rw [List.take_append, List.take_of_length_le (by omega), h1]
      · cases hp
theorem subp_ok {ps qs : List (Nat × AV)} {o n : Nat} {us : List Value} (h : Css w S ρ ps us) (hp : subp ps o n = some qs) : Css w S ρ qs ((us.drop o).take n) ∧ o + n ≤ us.length := by
  induction ps generalizing o us with
  | nil =>
    simp only [subp] at hp
    split at hp
    · rename_i e; obtain ⟨rfl, rfl⟩ := e; injection hp with hp; subst hp; exact ⟨by simp [Css], Nat.zero_le _⟩
    · cases hp
  | cons p ps ih =>
    obtain ⟨s', y⟩ := p
    simp only [subp] at hp
    split at hp
    · rename_i e; subst e
      have := tk_ok h hp
      simpa using this
    · split at hp
      · obtain ⟨u1, u2, rfl, h1, h2, h3⟩ := h
        obtain ⟨k1, k2⟩ := ih h3 hp
        refine ⟨?_, by simp; omega⟩
        rw [List.drop_append, List.drop_of_length_le (by omega), List.nil_append, h1]; exact k1
      · cases hp

/-- Reading a variable at an offset of parts: o is where a part begins, off lies within it. -/
def rdP (rt : Rt) (ps : List (Nat × AV)) (o off : Nat) : Option (AV × Prop) :=
  match rt with
  | .st n => if off = 0 then (subp ps o n).map fun q => (.agg q, True) else none
  | .arr n => if off = 0 then match pt ps o with
    | some (s, .blob cs) => if s = n then some (.blob cs, True) else none
    | _ => none else none
  | .one z => match pt ps o with
    | some (_, .blob cs) => some (ofC (cs.getD off (match z with | .int k _ => .int k 0 | _ => undef)), off < cs.length)
    | some (s, x) => if off = 0 ∧ s = 1 ∧ x.multi = false then some (x, True) else none
    | none => none
def Rt.size : Rt → Nat
  | .one _ => 1
  | .arr n => n
  | .st n => n
def Rt.isAgg : Rt → Bool
  | .one _ => false
  | _ => true
/-- The cells that a read takes. -/
theorem rdP_ok {rt : Rt} {ps : List (Nat × AV)} {o off : Nat} {x : AV} {p : Prop} {us : List Value} (h : Css w S ρ ps us) (hr : rdP rt ps o off = some (x, p)) (hp : p) :
    o + off + rt.size ≤ us.length ∧ Vl w S ρ x (if rt.isAgg then .agg ((us.drop (o + off)).take rt.size).toArray else us.getD (o + off) undef) := by
  unfold rdP at hr
  split at hr
  · split at hr
    · rename_i n e; subst e
      cases hq : subp ps o n with
      | none => rw [hq] at hr; cases hr
      | some q =>
        rw [hq] at hr; injection hr with hr; injection hr with e1 e2; subst e1
        obtain ⟨k1, k2⟩ := subp_ok h hq
        exact ⟨k2, Vl.agg' k1.cs⟩
    · cases hr
  · split at hr
    · rename_i n e; subst e
      split at hr
      · rename_i s cs hq
        split at hr
        · rename_i e; subst e; injection hr with hr; injection hr with e1 e2; subst e1
          obtain ⟨k1, k2⟩ := pt_ok h hq
          refine ⟨k2, ?_⟩
          simp only [Rt.isAgg, Rt.size, if_true, Nat.add_zero]
          generalize List.take s (List.drop o us) = vs at k1
          cases k1 with
          | blob _ h => exact Vl.blob' _ h
        · cases hr
      · cases hr
    · cases hr
  · rename_i z
    split at hr
    · rename_i s cs hq
      injection hr with hr; injection hr with e1 e2; subst e1 e2
      obtain ⟨k1, k2⟩ := pt_ok h hq
      generalize hv : (us.drop o).take s = vs at k1
      cases k1 with
      | blob =>
        have hl : cs.length ≤ s := by rw [← hv, List.length_take]; omega
        have h1 : us.getD (o + off) undef = cs.getD off (match z with | .int k _ => .int k 0 | _ => undef) := by
          rw [List.getD_eq_getElem?_getD, List.getD_eq_getElem?_getD, ← hv, List.getElem?_take, if_pos (by omega), List.getElem?_drop, List.getElem?_eq_getElem (by omega)]
          rfl
        refine ⟨by simp only [Rt.size]; omega, ?_⟩
        simp only [Rt.isAgg, Bool.false_eq_true, if_false, h1]
        exact vl_ofC _
    · rename_i s y _ hq
      split at hr
      · rename_i e; obtain ⟨rfl, rfl, hm⟩ := e
        injection hr with hr; injection hr with e1 e2; subst e1
        obtain ⟨k1, k2⟩ := pt_ok h hq
        refine ⟨k2, ?_⟩
        simp only [Rt.isAgg, Bool.false_eq_true, if_false, Nat.add_zero]
        have h1 : (us.drop o).take 1 = [us.getD o undef] := by
          rw [List.drop_eq_getElem_cons (by omega), List.getD_eq_getElem?_getD, List.getElem?_eq_getElem (by omega)]; rfl
        rw [h1] at k1
        have h2 : Vl1 w S ρ y (us.getD o undef) := .inr ⟨_, k1, by unfold wrapv; rw [hm]; rfl⟩
        refine Vl.of1 (fun xs e => ?_) h2
        subst e
        cases k1
      · cases hr
    · cases hr
end
end Go.Proofs.Ytbefhofmbiedgaa
