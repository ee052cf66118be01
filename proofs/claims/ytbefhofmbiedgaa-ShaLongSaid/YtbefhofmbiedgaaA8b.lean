/- Filling cells; parts over parts; values that are pure. Over any program; no condition. -/
import Derived.Test.YtbefhofmbiedgaaA8
import Derived.Laws.IdiomStrings
import Derived.Laws.MakeOwn
namespace Go.Proofs.Ytbefhofmbiedgaa
set_option linter.all false
open Go.RowKit

/-- Of stable memory and values alone. -/
def pureB : Nat → AV → Bool
  | 0, _ => false
  | d + 1, x => match x with
    | .own _ _ | .ownv _ _ _ _ | .ref _ _ _ | .rowp _ _ _ _ _ _ | .tup _ => false
    | .agg ps => ps.all fun p => pureB d p.2
    | .fn _ f c => f.isEmpty && c.isEmpty
    | .iface _ x => pureB d x
    | _ => true
/-- The value takes sz cells. -/
def szOk (sz : Nat) : AV → Option Prop
  | .top | .tup _ => none
  | .blob cs => some (cs.length = sz)
  | .agg ps => if psz ps = sz then some True else none
  | _ => if sz = 1 then some True else none

section
variable {P : Program} {F : Nat → Prop} {w0 w : World} {S : Nat → Prop} {ρ : Rho} {hp : List AObj}
theorem pureB_ok {ρ' : Rho} : ∀ (d : Nat) {x : AV} {us : List Value}, Cs w S ρ x us → pureB d x = true → Cs w S ρ' x us := by
  intro d
  induction d with
  | zero => intro x us _ h; cases h
  | succ d ih =>
    intro x us h hb
    cases h with
    | top us h => exact .top us h
    | int k n => exact .int k n
    | bool b => exact .bool b
    | str l => exact .str l
    | con x h => exact .con x h
    | blob _ h => exact .blob _ h
    | agg ps uss h1 h2 h3 =>
      simp only [pureB, List.all_eq_true] at hb
      refine .agg ps uss h1 h2 fun i hi => ih (h3 i hi) (hb _ ?_)
      rw [List.getD_eq_getElem?_getD, List.getElem?_eq_getElem hi]
      exact List.getElem_mem hi
    | sl0 sz A c h => exact .sl0 sz A c h
    | sl sz xs us b o c h1 h2 h3 h4 h5 h6 => exact .sl sz xs us b o c h1 h2 h3 h4 h5 h6
    | ptr sz x o off us b base h1 h2 h3 h4 => exact .ptr sz x o off us b base h1 h2 h3 h4
    | own => cases hb
    | ownv => cases hb
    | ref => cases hb
    | rowp => cases hb
    | fn f first cap us vs h1 h2 h3 h4 =>
      simp only [pureB, Bool.and_eq_true, List.isEmpty_iff] at hb
      obtain ⟨rfl, rfl⟩ := hb
      exact .fn f [] [] us vs h1 h2 (fun i hi => by simp at hi) (fun i hi => by simp at hi)
    | iface t x us h => exact .iface t x us (ih h hb)
theorem szOk_ok {sz : Nat} {x : AV} {us : List Value} {p : Prop} (h : Cs w S ρ x us) (hs : szOk sz x = some p) (hp : p) : us.length = sz := by
  have one : ∀ {q : Prop}, (if sz = 1 then some True else none) = some q → us.length = 1 → us.length = sz := by
    intro q hq hu
    split at hq
    · rename_i e; rw [e]; exact hu
    · cases hq
  cases x <;> simp only [szOk, reduceCtorEq] at hs
  case blob cs => injection hs with hs; subst hs; cases h; exact hp
  case agg ps =>
    split at hs
    · rename_i e; rw [h.parts.len]; exact e
    · cases hs
  all_goals exact one hs (by cases h <;> rfl)
/-- Cells over cells. -/
theorem foldl_set : ∀ (vs : List Value) (k off : Nat) (cells : Array Value), off + k + vs.length ≤ cells.size →
    ((vs.zipIdx k).foldl (fun cs (p : Value × Nat) => cs.setIfInBounds (off + p.2) p.1) cells).toList = cells.toList.take (off + k) ++ vs ++ cells.toList.drop (off + k + vs.length) := by
  intro vs
  induction vs with
  | nil => intro k off cells h; simp
  | cons v vs ih =>
    intro k off cells h
    simp only [List.length_cons] at h
    rw [List.zipIdx_cons, List.foldl_cons, ih (k + 1) off _ (by simp; omega)]
    simp only [Array.toList_setIfInBounds, List.length_cons]
    have := list_seg_step cells.toList (off + k) v vs (by simp; omega)
    rw [show off + (k + 1) = off + k + 1 by omega]
    rw [show off + k + 1 + vs.length = off + k + 1 + vs.length from rfl] at this
    rw [this]
theorem fill_step {place : Nat → Option (Nat × Nat)} {cells : Array Value} {i off sz : Nat} {v : Value} {rest : List (Nat × Value)} (hp : place i = some (off, sz)) (hs : v.cells.size = sz) (hl : off + sz ≤ cells.size) :
    Instr.fill place cells ((i, v) :: rest) = Instr.fill place (cells.toList.take off ++ v.cells.toList ++ cells.toList.drop (off + sz)).toArray rest := by
  have h1 : (v.cells.zipIdx.foldl (fun cs (p : Value × Nat) => cs.setIfInBounds (off + p.2) p.1) cells) = (cells.toList.take off ++ v.cells.toList ++ cells.toList.drop (off + sz)).toArray := by
    apply Array.ext'
    have := foldl_set v.cells.toList 0 off cells (by rw [Nat.add_zero, Array.length_toList, hs]; exact hl)
    simp only [Nat.add_zero, Array.length_toList, hs] at this
    rw [← Array.foldl_toList]
    simpa using this
  simp only [Instr.fill, hp]
  rw [if_neg (by simp only [hs]; simp; omega)]
  exact congrArg (fun c => Instr.fill place c rest) h1
theorem fill_all (sz : Nat) : ∀ (vs : List Value) (k : Nat) (pre rest : List Value), (∀ v ∈ vs, v.cells.size = sz) → pre.length = k * sz → rest.length = vs.length * sz →
    Instr.fill (fun i => some (i * sz, sz)) (pre ++ rest).toArray ((vs.zipIdx k).map fun p => (p.2, p.1)) = some (pre ++ (vs.map fun v => v.cells.toList).flatten).toArray := by
  intro vs
  induction vs with
  | nil =>
    intro k pre rest _ _ hr
    have : rest = [] := List.eq_nil_of_length_eq_zero (by simpa using hr)
    subst this
    simp [Instr.fill]
  | cons v vs ih =>
    intro k pre rest hv hp hr
    have hvs := hv v (by simp)
    simp only [List.length_cons, Nat.add_mul, Nat.one_mul] at hr
    rw [List.zipIdx_cons, List.map_cons, fill_step (off := k * sz) (sz := sz) rfl hvs (by simp; omega)]
    have e : ((pre ++ rest).toArray.toList.take (k * sz) ++ v.cells.toList ++ (pre ++ rest).toArray.toList.drop (k * sz + sz)) = (pre ++ v.cells.toList) ++ rest.drop sz := by
      simp only [List.toList_toArray]
      rw [← hp, List.take_left, List.drop_append, List.drop_of_length_le (by omega), List.nil_append, Nat.add_sub_cancel_left]
    rw [e, ih (k + 1) (pre ++ v.cells.toList) (rest.drop sz) (fun u hu => hv u (by simp [hu])) (by simp [hvs, hp, Nat.add_mul]) (by rw [List.length_drop]; omega)]
    simp
theorem cells_wrapv {x : AV} {us : List Value} (h : Cs w S ρ x us) (h1 : x.multi = true ∨ us.length = 1) : (wrapv x us).cells.toList = us := by
  unfold wrapv
  cases hm : x.multi with
  | true => simp [Value.cells]
  | false =>
    rw [hm] at h1
    obtain ⟨u, rfl⟩ : ∃ u, us = [u] := List.length_eq_one_iff.1 (by simpa using h1)
    have h2 : u.oneCell' = true := h.one u (by simp)
    simp only [Bool.false_eq_true, if_false, List.headD_cons]
    cases u <;> first | rfl | cases h2
theorem Cs.multi_or {x : AV} {us : List Value} (h : Cs w S ρ x us) (h0 : x ≠ .top) : x.multi = true ∨ us.length = 1 := by
  cases h <;> first | exact .inr rfl | exact .inl rfl | exact absurd rfl h0

/-! ### Parts over parts -/
def drp : List (Nat × AV) → Nat → Option (List (Nat × AV))
  | [], n => if n = 0 then some [] else none
  | (s, x) :: ps, n => if n = 0 then some ((s, x) :: ps) else if s ≤ n then drp ps (n - s) else none
def spl : List (Nat × AV) → Nat → Nat → List (Nat × AV) → Option (List (Nat × AV))
  | [], _, _, _ => none
  | (s, x) :: ps, o, n, qs => if o = 0 then (drp ((s, x) :: ps) n).map (qs ++ ·) else if s ≤ o then (spl ps (o - s) n qs).map ((s, x) :: ·) else none
theorem drp_ok {ps qs : List (Nat × AV)} {n : Nat} {us : List Value} (h : Css w S ρ ps us) (hp : drp ps n = some qs) : Css w S ρ qs (us.drop n) ∧ n ≤ us.length := by
  induction ps generalizing n us with
  | nil =>
    simp only [drp] at hp
    split at hp
    · rename_i e; subst e; injection hp with hp; subst hp; exact ⟨by simpa using h, Nat.zero_le _⟩
    · cases hp
  | cons p ps ih =>
    obtain ⟨s', y⟩ := p
    simp only [drp] at hp
    split at hp
    · rename_i e; subst e; injection hp with hp; subst hp; exact ⟨by simpa using h, Nat.zero_le _⟩
    · split at hp
      · rename_i hs
        obtain ⟨u1, u2, rfl, h1, h2, h3⟩ := h
        obtain ⟨k1, k2⟩ := ih h3 hp
        refine ⟨?_, by simp; omega⟩
        rw [List.drop_append, List.drop_of_length_le (by omega), List.nil_append, h1]; exact k1
      · cases hp
theorem spl_ok {ps qs rs : List (Nat × AV)} {o n : Nat} {us vs : List Value} (h : Css w S ρ ps us) (hq : Css w S ρ qs vs) (hp : spl ps o n qs = some rs) : Css w S ρ rs (us.take o ++ vs ++ us.drop (o + n)) ∧ o + n ≤ us.length := by
  induction ps generalizing o us rs with
  | nil => cases hp
  | cons p ps ih =>
    obtain ⟨s', y⟩ := p
    simp only [spl] at hp
    split at hp
    · rename_i e; subst e
      obtain ⟨q, hq2, rfl⟩ := Option.map_eq_some_iff.1 hp
      obtain ⟨k1, k2⟩ := drp_ok h hq2
      refine ⟨?_, by omega⟩
      rw [Nat.zero_add, List.take_zero, List.nil_append]
      exact hq.append k1
    · split at hp
      · rename_i hs
        obtain ⟨q, hq2, rfl⟩ := Option.map_eq_some_iff.1 hp
        obtain ⟨u1, u2, rfl, h1, h2, h3⟩ := h
        obtain ⟨k1, k2⟩ := ih h3 hq2
        refine ⟨⟨u1, _, ?_, h1, h2, k1⟩, by simp; omega⟩
        rw [List.take_append, List.take_of_length_le (by omega), List.drop_append, List.drop_of_length_le (by omega), List.nil_append, h1, show o + n - s' = o - s' + n by omega]
        simp only [List.append_assoc]
      · cases hp
/-- The parts of cells, by a shape: one cell, or an array of n. -/
def mkParts : List (Option Nat) → List Value → List (Nat × AV)
  | [], _ => []
  | none :: sh, us => (1, ofC (us.headD undef)) :: mkParts sh us.tail
  | some n :: sh, us => (n, .blob (us.take n)) :: mkParts sh (us.drop n)
def shSize : List (Option Nat) → Nat
  | [] => 0
  | none :: sh => 1 + shSize sh
  | some n :: sh => n + shSize sh
theorem mkParts_ok : ∀ (sh : List (Option Nat)) (us : List Value), shSize sh = us.length → (us.all fun u => u.oneCell') = true → Css w S ρ (mkParts sh us) us := by
  intro sh
  induction sh with
  | nil => intro us h _; exact List.eq_nil_of_length_eq_zero (by simpa [shSize] using h.symm)
  | cons a sh ih =>
    intro us h ho
    rw [List.all_eq_true] at ho
    cases a with
    | none =>
      cases us with
      | nil => simp [shSize] at h
      | cons u us =>
        refine ⟨[u], us, rfl, rfl, cs_ofC u (ho u (by simp)), ih us (by simp [shSize] at h; omega) (by rw [List.all_eq_true]; exact fun v hv => ho v (by simp [hv]))⟩
    | some n =>
      simp only [shSize] at h
      refine ⟨us.take n, us.drop n, (List.take_append_drop n us).symm, by rw [List.length_take]; omega, .blob _ (fun u hu => ho u (List.mem_of_mem_take hu)), ih _ (by rw [List.length_drop]; omega) (by rw [List.all_eq_true]; exact fun v hv => ho v (List.mem_of_mem_drop hv))⟩
end
end Go.Proofs.Ytbefhofmbiedgaa
