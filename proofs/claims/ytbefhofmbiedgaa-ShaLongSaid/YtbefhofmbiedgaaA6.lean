/- Loads, fields of values, cuts of slices and strings, components, lengths on abstract values. Over any program; no condition. -/
import Derived.Test.YtbefhofmbiedgaaA5
namespace Go.Proofs.Ytbefhofmbiedgaa
set_option linter.all false
open Go.RowKit

section
variable {P : Program} {F : Nat → Prop} {w0 w : World} {S : Nat → Prop} {ρ : Rho} {hp : List AObj}

/-- A type is read so. -/
def RtOk (P : Program) (t : TypeId) (rt : Rt) : Prop :=
  (P.info? t).map (·.size) = some rt.size ∧ (match P.underlying t with | some (.struct _) | some (.array _ _) => some true | some _ => some false | none => none) = some rt.isAgg
theorem RtOk.agg {t : TypeId} {rt : Rt} (h : RtOk P t rt) (w : World) : (isAgg t).run P w = .ok rt.isAgg w := by
  obtain ⟨_, h⟩ := h
  cases hu : P.underlying t with
  | none => rw [hu] at h; cases h
  | some d =>
    rw [hu] at h
    simp only [isAgg, Sem.run_bind, run_underlying hu, Result.andThen_ok]
    cases d <;> (injection h with h; rw [← h]; rfl)
theorem RtOk.size {t : TypeId} {rt : Rt} (h : RtOk P t rt) (w : World) : (sizeOf t).run P w = .ok rt.size w := by
  obtain ⟨h, _⟩ := h
  obtain ⟨j, hj1, hj2⟩ := Option.map_eq_some_iff.1 h
  simp [sizeOf, typeInfo, hj1, hj2]
/-- Cells in memory, read as a variable. -/
theorem run_loadVar_cells {t : TypeId} {rt : Rt} (h : RtOk P t rt) (b o : Nat) (us : List Value) (hl : us.length = rt.size) (hc : ∀ j, j < us.length → w.cell? ⟨b, o + j, none⟩ = us[j]?) :
    (loadVar t ⟨b, o, none⟩).run P w = .ok (if rt.isAgg then .agg us.toArray else us.getD 0 undef) w := by
  unfold loadVar
  simp only [Sem.run_bind, h.agg, Result.andThen_ok]
  have hcells : ∀ j v, us[j]? = some v → w.cell? ((⟨b, o, none⟩ : Addr).add j) = some v := by
    intro j v hj
    rw [add_spot, hc j (List.getElem?_eq_some_iff.1 hj).1, hj]
  cases hag : rt.isAgg with
  | true =>
    simp only [if_true, Sem.run_bind, h.size, Result.andThen_ok, ← hl, run_loadCells_list (P := P) w _ us hcells, Sem.run_pure]
  | false =>
    simp only [Bool.false_eq_true, if_false]
    have h1 : rt.size = 1 := by cases rt <;> first | rfl | cases hag
    have h0 := hc 0 (by omega)
    rw [Nat.add_zero, List.getElem?_eq_getElem (by omega)] at h0
    simp [load, Sem.run, h0, List.getD_eq_getElem?_getD, List.getElem?_eq_getElem (show 0 < us.length by omega)]

/-- The parts behind a pointer. -/
def Rt.zv : Rt → AV
  | .one z => z
  | _ => .top
def pparts (sz : Nat) : AV → List (Nat × AV)
  | .agg ps => ps
  | x => [(sz, x)]
theorem Css.single {x : AV} {us : List Value} (h : Cs w S ρ x us) {sz : Nat} (hl : us.length = sz) : Css w S ρ (pparts sz x) us := by
  cases x
  case agg ps => exact h.parts
  all_goals exact ⟨us, [], by simp, hl, h, rfl⟩
def aLd (hp : List AObj) (rt : Rt) (x : AV) : Option (AV × Prop) :=
  match x with
  | .ref id o off => match hp[id]? with
    | some (.cells _ ps) => rdP rt ps o off
    | _ => none
  | .ptr sz x o off => rdP rt (pparts sz x) o off
  | .rowp id v i z o off => match hp[id]? with
    | some (.row _ s v' xs) => if v = v' then (rdP rt (pparts s (xs.getD i z)) o off).map fun (q : AV × Prop) => (q.1, q.2 ∧ i < xs.length) else none
    | _ => none
  | _ => none
theorem ld_of_css {rt : Rt} {ps : List (Nat × AV)} {o off : Nat} {r : AV} {p : Prop} {us : List Value} (h : Css w S ρ ps us) (hr : rdP rt ps o off = some (r, p)) (hp' : p) {t : TypeId} (ht : RtOk P t rt) {b base : Nat}
    (hc : ∀ j, j < us.length → w.cell? ⟨b, base + j, none⟩ = us[j]?) : ∃ q, (loadVar t ⟨b, base + (o + off), none⟩).run P w = .ok q w ∧ Vl w S ρ r q := by
  obtain ⟨h1, h2⟩ := rdP_ok h hr hp'
  have hl : ((us.drop (o + off)).take rt.size).length = rt.size := by rw [List.length_take, List.length_drop]; omega
  refine ⟨_, run_loadVar_cells ht b _ ((us.drop (o + off)).take rt.size) hl fun j hj => ?_, ?_⟩
  · rw [hl] at hj
    rw [List.getElem?_take, if_pos hj, List.getElem?_drop, ← hc _ (by omega), Nat.add_assoc]
  · cases hag : rt.isAgg with
    | true => rw [hag] at h2; exact h2
    | false =>
      rw [hag] at h2
      have h1' : rt.size = 1 := by cases rt <;> first | rfl | cases hag
      simp only [Bool.false_eq_true, if_false] at h2 ⊢
      have : ((us.drop (o + off)).take rt.size).getD 0 undef = us.getD (o + off) undef := by
        rw [List.getD_eq_getElem?_getD, List.getD_eq_getElem?_getD, List.getElem?_take, if_pos (by omega), List.getElem?_drop, Nat.add_zero]
      rw [this]; exact h2
theorem Vl.rho {x : AV} {v : Value} (h : Vl w S rho0 x v) : Vl w S ρ x v := h.ext ⟨fun _ _ => rfl, fun _ h => h, fun _ _ _ h => by cases h⟩
theorem aLd_ok (H : ObsOk w S ρ hp) {rt : Rt} {x r : AV} {p : Prop} {v : Value} (h : aLd hp rt x = some (r, p)) (hp' : p) (hx : Vl w S ρ x v) {t : TypeId} (ht : RtOk P t rt) :
    ∃ q, (Instr.loadAt t v).run P w = .ok q w ∧ Vl w S ρ r q := by
  have go : ∀ {ad : Addr} {q : Value}, (loadVar t ad).run P w = .ok q w → (Instr.loadAt t (.pointer (some ad))).run P w = .ok q w := by
    intro ad q hq; simp [Instr.loadAt, Instr.sureAddr, hq]
  unfold aLd at h
  split at h
  · rename_i id o off
    split at h
    · rename_i t' ps ho
      obtain ⟨g, L, h1, h2, rfl⟩ := hx.ref
      obtain ⟨g', us, k1, k2, k3, k4⟩ := H _ _ ho (by simp)
      rw [h1] at k1; injection k1 with k1; subst k1
      injection h2 with h2; injection h2 with h2; subst h2
      have hc : ∀ j, j < us.length → w.cell? ⟨g', 0 + j, none⟩ = us[j]? := fun j hj => by rw [Nat.zero_add, cell_of_row w g' j _ t' _ k2]; simp
      obtain ⟨q, hq, hv⟩ := ld_of_css k3 h hp' ht hc
      rw [Nat.zero_add] at hq
      exact ⟨q, go hq, hv⟩
    · cases h
  · rename_i sz y o off
    obtain ⟨us, b, base, h1, h2, h3, h4, rfl⟩ := hx.ptr
    obtain ⟨q, hq, hv⟩ := ld_of_css (Css.single h2 h3) h hp' ht h4
    exact ⟨q, go hq, hv.rho⟩
  · rename_i id ver i z o off
    split at h
    · rename_i e s v' xs ho
      split at h
      · rename_i e; subst e
        obtain ⟨g, L, h1, h2, rfl⟩ := hx.rowp
        obtain ⟨L', us, k1, k2, k3, k4, k5, k6⟩ := H _ _ ho (by simp)
        rw [h1] at k1; injection k1 with k1; subst k1
        obtain ⟨⟨q1, q2⟩, hq, e1⟩ := Option.map_eq_some_iff.1 h
        injection e1 with e1 e2; subst e1 e2
        obtain ⟨hq2, hi⟩ := hp'
        subst k3
        have hM := k4.mem k2 k5
        have hxi : xs[i]? = some (xs.getD i z) := by rw [List.getD_eq_getElem?_getD, List.getElem?_eq_getElem hi]; rfl
        obtain ⟨m1, m2⟩ := k5.elem hxi
        generalize hX : xs.getD i z = X at hq m1
        have hul : ((us.drop (i * L.sz)).take L.sz).length = L.sz := by rw [List.length_take, List.length_drop]; omega
        have hcell : ∀ j, j < ((us.drop (i * L.sz)).take L.sz).length → w.cell? ⟨g, i * L.sz + j, none⟩ = ((us.drop (i * L.sz)).take L.sz)[j]? := by
          intro j hj
          rw [hul] at hj
          obtain ⟨b, o', hA, hc⟩ := hM.cell (by omega)
          rw [h2] at hA; injection hA with hA; injection hA with hA1 hA2; subst hA1 hA2
          rw [List.getElem?_take, if_pos hj, List.getElem?_drop, ← hc _ (by omega), Nat.zero_add]
        obtain ⟨q, hq', hv⟩ := ld_of_css (Css.single m1 hul) hq hq2 ht hcell
        exact ⟨q, go hq', hv.rho⟩
      · cases h
    · cases h
  · cases h

/-- A field of a struct's value. -/
def aFld (o : Nat) (rt : Rt) (x : AV) : Option (AV × Prop) :=
  match x with
  | .agg ps => rdP rt ps o 0
  | _ => none
theorem aFld_ok {rt : Rt} {x r : AV} {p : Prop} {v : Value} {t : TypeId} {fs : Array Field} {k : Nat} {f : Field} (h : aFld f.offset rt x = some (r, p)) (hp' : p) (hx : Vl w S ρ x v) (ht : P.underlying t = some (.struct fs)) (hk : fs[k]? = some f) (hr : RtOk P f.type rt) :
    ∃ q, (Instr.field t v k).run P w = .ok q w ∧ Vl w S ρ r q := by
  unfold aFld at h
  split at h
  · rename_i ps
    obtain ⟨us, hc, rfl⟩ := hx.agg
    obtain ⟨h1, h2⟩ := rdP_ok hc.parts h hp'
    refine ⟨_, ?_, h2⟩
    simp only [Instr.field, Sem.run_bind, run_underlying ht, Result.andThen_ok, hk, asAgg, Sem.run_pure, part, hr.agg]
    cases hag : rt.isAgg with
    | true =>
      simp only [if_true, Sem.run_bind, hr.size, Result.andThen_ok, Sem.run_pure, Nat.add_zero]
      congr 2
      apply Array.ext'
      simp [List.take_drop, List.extract_eq_drop_take', Nat.add_comm]
    | false =>
      have h1' : rt.size = 1 := by cases rt <;> first | rfl | cases hag
      simp only [Bool.false_eq_true, if_false, Nat.add_zero]
      rw [List.getElem?_toArray, List.getElem?_eq_getElem (by omega), List.getD_eq_getElem?_getD, List.getElem?_eq_getElem (by omega)]
      rfl
  · cases h
end
end Go.Proofs.Ytbefhofmbiedgaa
