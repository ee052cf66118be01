/- The abstract machine's step in a state, and that the model does it. Over any program; no condition. -/
import Derived.Test.YtbefhofmbiedgaaA18
namespace Go.Proofs.Ytbefhofmbiedgaa
set_option linter.all false
open Go.RowKit

/-- Rows of the call's own are written no more: stable from here on. -/
def frzH (hp : List AObj) : List Nat → Option (List AObj)
  | [] => some hp
  | id :: r => match hp[id]? with
    | some (.row _ sz v xs) => if 0 < sz then frzH (hp.set id (.froz sz v xs)) r else none
    | some (.froz _ _ _) => frzH hp r
    | _ => none
def frzS (s : St) : List Opd → Option St
  | [] => some s
  | .c _ :: r => frzS s r
  | .t n :: r => if pureB 4 (lk s.fr n) then frzS s r else match bor1 s.hp (lk s.fr n) with
    | some (y, l) => match frzH s.hp l with
      | some hp' => frzS ⟨(n, y) :: s.fr, hp'⟩ r
      | none => none
    | none => none
section
variable {P : Program} {F : Nat → Prop} {w0 w : World} {S : Nat → Prop} {ρ : Rho}
theorem frzH_ok : ∀ (l : List Nat) {hp hp' : List AObj} {S : Nat → Prop}, HeapOk F w0 S ρ hp w → frzH hp l = some hp' →
    ∃ S', HeapOk F w0 S' ρ hp' w ∧ (∀ b, S b → S' b) ∧ (∀ b, Brw ρ hp l b → S' b) ∧ (∀ b, S' b → S b ∨ F b ∨ w0.heap.size ≤ b) := by
  intro l
  induction l with
  | nil =>
    intro hp hp' S H h
    injection h with h; subst h
    exact ⟨S, H, fun _ h => h, fun b ⟨id, o, h, _⟩ => by simp at h, fun _ h => .inl h⟩
  | cons id r ih =>
    intro hp hp' S H h
    simp only [frzH] at h
    split at h
    · rename_i e sz v xs ho
      split at h
      · rename_i hsz
        obtain ⟨L, us, k1, k2, k3, k4, k5, k6⟩ := H.ob _ _ ho
        subst k3
        have hblk : (AObj.row e L.sz v xs).blk ρ id = ablk L.A := by simp [AObj.blk, k1]
        have hM := (k4.mem k2 k5).sl (ρ := rho0) (Sc := fun b => S b ∨ ablk L.A = some b) hsz (fun b hb => .inr hb) (fun b hb => .inl hb)
        obtain ⟨u1, u2⟩ := H.upd (w' := w) (S' := fun b => S b ∨ ablk L.A = some b) (ρ' := ρ) (o' := .froz L.sz v xs) ho (World.grownBy.refl w _) (fun b hb => .inl hb)
          (fun b hb => hb.elim .inl fun h => .inr (.inr (by rw [hblk]; exact h))) (fun _ _ _ h => h) (fun _ _ _ => rfl)
          ⟨L, k1, k2, rfl, hM.sl.ext (fun _ _ => rfl) (fun _ h => h) (fun _ _ _ h => h)⟩ (fun v hv => H.vers _ _ ho v hv) (fun b hb => by cases hb)
        obtain ⟨S', i1, i2, i3, i4⟩ := ih u1 h
        refine ⟨S', i1, fun b hb => i2 b (.inl hb), fun b hb => ?_, fun b hb => ?_⟩
        · obtain ⟨id', o, hin, ho', hb⟩ := hb
          by_cases e : id' = id
          · subst e
            rw [ho] at ho'; injection ho' with ho'; subst ho'
            rw [hblk] at hb
            exact i2 b (.inr hb)
          · refine i3 b ⟨id', o, ?_, by rw [List.getElem?_set_ne (Ne.symm e)]; exact ho', hb⟩
            rcases List.mem_cons.1 hin with h | h
            · exact absurd h e
            · exact h
        · rcases i4 b hb with (h | h) | h
          · exact .inl h
          · exact .inr (H.mine _ _ ho b (by rw [hblk]; exact h))
          · exact .inr h
      · cases h
    · rename_i sz v xs ho
      obtain ⟨S', i1, i2, i3, i4⟩ := ih H h
      refine ⟨S', i1, i2, fun b hb => ?_, i4⟩
      obtain ⟨id', o, hin, ho', hb⟩ := hb
      rcases List.mem_cons.1 hin with e | hin
      · subst e
        rw [ho] at ho'; injection ho' with ho'; subst ho'
        cases hb
      · exact i3 b ⟨id', o, hin, ho', hb⟩
    · cases h
theorem frzS_ok {a : Act} : ∀ (ps : List Opd) {s s' : St} {S : Nat → Prop}, HeapOk F w0 S ρ s.hp w → FrOk w S ρ s.fr a.tmps → frzS s ps = some s' →
    ∃ S', HeapOk F w0 S' ρ s'.hp w ∧ FrOk w S' ρ s'.fr a.tmps ∧ (∀ b, S b → S' b) ∧ (∀ b, S' b → S b ∨ F b ∨ w0.heap.size ≤ b) := by
  intro ps
  induction ps with
  | nil => intro s s' S H hf h; injection h with h; subst h; exact ⟨S, H, hf, fun _ h => h, fun _ h => .inl h⟩
  | cons x r ih =>
    intro s s' S H hf h
    cases x with
    | c x => exact ih H hf h
    | t n =>
      simp only [frzS] at h
      split at h
      · exact ih H hf h
      · split at h
        · rename_i y l hb
          split at h
          · rename_i hp' hz
            obtain ⟨S1, i1, i2, i3, i4⟩ := frzH_ok l H hz
            have hv := bor1_ok (Sc := S1) H.obs hb (brw := l) (fun _ h => h) i2 i3 (hf n)
            obtain ⟨S', j1, j2, j3, j4⟩ := ih (s := ⟨(n, y) :: s.fr, hp'⟩) i1 (fun t => by
              simp only [lk]
              split
              · rename_i e; subst e; exact hv
              · exact (hf t).ext ⟨fun _ _ => rfl, i2, fun _ _ _ h => h⟩) h
            exact ⟨S', j1, j2, fun b hb => j3 b (i2 b hb), fun b hb => (j4 b hb).elim (i4 b) .inr⟩
          · cases h
        · cases h
theorem frzS_congr : ∀ (ps : List Opd) {s s' : St}, s.hp = s'.hp → (∀ t ∈ ps.flatMap fun x => match x with | .t n => [n] | .c _ => [], lk s.fr t = lk s'.fr t) →
    (frzS s ps = none ∧ frzS s' ps = none) ∨ ∃ z z', frzS s ps = some z ∧ frzS s' ps = some z' ∧ z.hp = z'.hp ∧ ∀ t, lk s.fr t = lk s'.fr t → lk z.fr t = lk z'.fr t := by
  intro ps
  induction ps with
  | nil => intro s s' hp h; exact .inr ⟨s, s', rfl, rfl, hp, fun t ht => ht⟩
  | cons x r ih =>
    intro s s' hp h
    cases x with
    | c x => exact ih hp fun t ht => h t (by simpa using ht)
    | t n =>
      have hn : lk s.fr n = lk s'.fr n := h n (by simp)
      have hr := fun t (ht : t ∈ r.flatMap fun x => match x with | .t n => [n] | .c _ => []) => h t (by rw [List.flatMap_cons]; exact List.mem_append_right _ ht)
      simp only [frzS, ← hn, ← hp]
      split
      · exact ih hp hr
      · split
        · rename_i y l hb
          split
          · rename_i hp' hz
            have ih' := ih (s := ⟨(n, y) :: s.fr, hp'⟩) (s' := ⟨(n, y) :: s'.fr, hp'⟩) rfl fun t ht => by
              simp only [lk]; split
              · rfl
              · exact hr t ht
            rcases ih' with h' | ⟨z, z', z1, z2, z3, z4⟩
            · exact .inl h'
            · refine .inr ⟨z, z', z1, z2, z3, fun t ht => z4 t ?_⟩
              simp only [lk]; split
              · rfl
              · exact ht
          · exact .inl ⟨rfl, rfl⟩
        · exact .inl ⟨rfl, rfl⟩
end

structure AOper where
  dst : Option Nat
  op : AOp
  grd : Option (Nat × Bool)
def St.put (s : St) (d : Option Nat) (x : AV) (hp : List AObj) : St :=
  match d with
  | some t => ⟨(t, x) :: s.fr, hp⟩
  | none => ⟨s.fr, hp⟩
def stV (s : St) : Option (AV × Prop) → Option (AV × List AObj × Prop)
  | some (x, p) => some (x, s.hp, p)
  | none => none
def stN (s : St) : Option ((Nat → AV) × AObj × Prop) → Option (AV × List AObj × Prop)
  | some (xf, o, p) => some (xf s.hp.length, s.hp ++ [o], p)
  | none => none
def stE (s : St) : Option (AV × Nat × AObj × Prop) → Option (AV × List AObj × Prop)
  | some (x, id, o, p) => some (x, s.hp.set id o, p)
  | none => none
def stC (s : St) : Option (AV × List Nat × List AObj × Prop) → Option (AV × List AObj × Prop)
  | some (x, ids, os, p) => some (x, place s.hp ids os, p)
  | none => none
def astep (Φ : Phi) (s : St) : AOp → Option (AV × List AObj × Prop)
  | .call f args => stC s (acall0 s.hp s.hp.length (args.map s.ev) (Φ f))
  | .callv g args => match s.ev g with
    | .fn (.func f) [] cap => if cap.all AV.one = true then stC s (acall0 s.hp s.hp.length (args.map s.ev ++ cap) (Φ f)) else none
    | _ => none
  | .app e sz b x y => match aeff s (.app e sz b x y) with
    | some r => stE s (some r)
    | none => stN s (anew s (.app e sz b x y))
  | .st rt a x => stE s (aeff s (.st rt a x))
  | .mark x => stE s (aeff s (.mark x))
  | .new t ps => stN s (anew s (.new t ps))
  | .box t sz x => stN s (anew s (.box t sz x))
  | .buildSl e sz ps => match frzS s ps with
    | some s' => stN s' (anew s' (.buildSl e sz ps))
    | none => none
  | .mkSl e sz b z l c => stN s (anew s (.mkSl e sz b z l c))
  | .bytes e x => stN s (anew s (.bytes e x))
  | op => stV s (aval s op)
/-- The model's operation is this one. -/
def MtA (P : Program) (op : Op) : AOp → Prop
  | .call f args => ∃ A ts, op = .call { callee := .value (.func f), args := A, argTypes := ts } ∧ args = A.toList.map opd
  | .callv g args => ∃ G A ts, op = .call { callee := .value G, args := A, argTypes := ts } ∧ g = opd G ∧ args = A.toList.map opd
  | .st rt a x => ∃ t A X, op = .store t A X ∧ RtOk P t rt ∧ a = opd A ∧ x = opd X
  | .app e sz b x y => Mt2 P op (.app e sz b x y)
  | .new t ps => Mt2 P op (.new t ps)
  | .box t sz x => Mt2 P op (.box t sz x)
  | .buildSl e sz ps => Mt2 P op (.buildSl e sz ps)
  | .mkSl e sz b z l c => Mt2 P op (.mkSl e sz b z l c)
  | .bytes e x => Mt2 P op (.bytes e x)
  | .mark x => Mt2 P op (.mark x)
  | ao => Mt P op ao

structure RelS (F : Nat → Prop) (w0 : World) (S0 : Nat → Prop) (ρ0 : Rho) (N : Nat) (ds : List Deferred) (S : Nat → Prop) (ρ : Rho) (s : St) (a : Act) (w : World) : Prop where
  heap : HeapOk F w0 S ρ s.hp w
  fr : FrOk w S ρ s.fr a.tmps
  size : a.tmps.size = N
  dfr : a.defers = ds
  sin : ∀ b, S b → S0 b ∨ F b ∨ w0.heap.size ≤ b
  ext : Ext w0 w S0 S ρ0 ρ
def Rel (F : Nat → Prop) (w0 : World) (S0 : Nat → Prop) (ρ0 : Rho) (N : Nat) (ds : List Deferred) (s : St) (a : Act) (w : World) : Prop := ∃ S ρ, RelS F w0 S0 ρ0 N ds S ρ s a w

section
variable {P : Program} {Φ : Phi} {F : Nat → Prop} {w0 w : World} {S0 S : Nat → Prop} {ρ0 ρ : Rho} {N : Nat} {ds : List Deferred} {s : St} {a : Act}
theorem put_size (a : Act) (d : Option Nat) (v : Value) : (a.put d v).tmps.size = a.tmps.size := by cases d <;> simp [Act.put]
theorem put_defers (a : Act) (d : Option Nat) (v : Value) : (a.put d v).defers = a.defers := by cases d <;> rfl
/-- Behind a step. -/
theorem RelS.next {w' : World} {S' : Nat → Prop} {ρ' : Rho} {hp' : List AObj} {x : AV} {v : Value} {d : Option Nat} (R : RelS F w0 S0 ρ0 N ds S ρ s a w) (H : HeapOk F w0 S' ρ' hp' w') (hE : Ext w w' S S' ρ ρ') (hS : ∀ b, S' b → S b ∨ F b ∨ w0.heap.size ≤ b)
    (hd : ∀ t, d = some t → t < N) (hv : Vl w' S' ρ' x v) : RelS F w0 S0 ρ0 N ds S' ρ' (s.put d x hp') (a.put d v) w' := by
  refine ⟨by cases d <;> exact H, ?_, by rw [put_size]; exact R.size, by rw [put_defers]; exact R.dfr, fun b hb => ?_, R.ext.trans hE⟩
  · cases d with
    | none => exact R.fr.ext hE
    | some t =>
      have := (R.fr.ext hE).put (d := t) (by rw [R.size]; exact hd t rfl) hv
      exact this
  · rcases hS b hb with h | h
    · exact R.sin b h
    · exact .inr h
theorem run_call {o : Oper} {G : Operand} {A : Array Operand} {ts : Array TypeId} {f : FuncId} {cap : Array Value} (ho : o.op = .call { callee := .value G, args := A, argTypes := ts }) (hG : a.eval G = .func (.func f) #[] cap) (hf : FnIn P f) :
    (execOp a.eval o).run P w = .ok (.enter f (A.map a.eval ++ cap)) w := by
  obtain ⟨fn, h1, h2, h3⟩ := hf
  have h2' : ¬ fn.name = "runtime.NumGoroutine" := by simpa using h2
  have h3' : ¬ fn.body = none := by intro e; rw [e] at h3; cases h3
  simp [execOp, ho, resolve, hG, Deferred.ofValue, invoke, callFunc, program, Sem.run, h1, h2', h3']
theorem args_ok (hf : FrOk w S ρ s.fr a.tmps) (A : List Operand) : ArgsOk w S ρ ((A.map opd).map s.ev) (A.map a.eval) := by
  refine ⟨by simp, fun i hi => ?_⟩
  simp only [List.length_map] at hi
  have h1 : ((A.map opd).map s.ev).getD i .top = s.ev (opd A[i]) := by
    rw [List.getD_eq_getElem?_getD, List.getElem?_map, List.getElem?_map, List.getElem?_eq_getElem hi]; rfl
  have h2 : (A.map a.eval).getD i undef = a.eval A[i] := by
    rw [List.getD_eq_getElem?_getD, List.getElem?_map, List.getElem?_eq_getElem hi]; rfl
  rw [h1, h2]
  exact ev_ok hf _
theorem ArgsOk.append {xs ys : List AV} {us vs : List Value} (h : ArgsOk w S ρ xs us) (k : ArgsOk w S ρ ys vs) : ArgsOk w S ρ (xs ++ ys) (us ++ vs) := by
  refine ⟨by simp [h.1, k.1], fun i hi => ?_⟩
  have hl := h.1
  rcases Nat.lt_or_ge i xs.length with h1 | h1
  · have := h.2 i h1
    simp only [List.getD_eq_getElem?_getD] at this ⊢
    rw [List.getElem?_append_left h1, List.getElem?_append_left (by omega)]; exact this
  · have := k.2 (i - xs.length) (by rw [List.length_append] at hi; omega)
    simp only [List.getD_eq_getElem?_getD] at this ⊢
    rw [List.getElem?_append_right h1, List.getElem?_append_right (by omega), hl]; exact this
theorem step_call (hΦ : PhiOk P Φ) {o : Oper} {f : FuncId} {as : List AV} {args : List Value} {x : AV} {hp2 : List AObj} {p : Prop} {K : Act → World → Prop} {Q : Exit → Act → World → Prop} (R : RelS F w0 S0 ρ0 N ds S ρ s a w) (h : stC s (acall0 s.hp s.hp.length as (Φ f)) = some (x, hp2, p)) (hp' : p) (ha : ArgsOk w S ρ as args)
    (hrun : FnIn P f → (execOp a.eval o).run P w = .ok (.enter f args.toArray) w) (hd : ∀ t, o.dst = some t → t < N) (hK : ∀ a' w', Rel F w0 S0 ρ0 N ds (s.put o.dst x hp2) a' w' → K a' w') : o.wp P a w K Q := by
  unfold stC at h
  split at h
  · rename_i x' ids os p' hc
    simp only [Option.some.injEq, Prod.mk.injEq] at h
    obtain ⟨rfl, rfl, rfl⟩ := h
    have hin : FnIn P f := by
      cases hf : Φ f with
      | none => rw [hf] at hc; cases hc
      | some ms => exact (hΦ f ms.1 ms.2 hf).2
    unfold Oper.wp
    rw [hrun hin, Oper.upon_enter]
    refine (acall0_ok hΦ hc hp' R.heap (fun _ _ h _ => h) (fun _ _ => rfl) ha (fun h1 h2 h3 => place_ok R.heap h1 h2 h3)).mono ?_
    rintro e w' ⟨v, S', ρ', rfl, hv, H', hE, hS⟩
    exact hK _ _ ⟨S', ρ', R.next H' hE hS hd hv⟩
  · cases h
theorem step_val {o : Oper} {r : Option (AV × Prop)} {x : AV} {hp2 : List AObj} {p : Prop} {K : Act → World → Prop} {Q : Exit → Act → World → Prop} (R : RelS F w0 S0 ρ0 N ds S ρ s a w) (h : stV s r = some (x, hp2, p)) (hp' : p) (hd : ∀ t, o.dst = some t → t < N)
    (hr : ∀ x p, r = some (x, p) → p → ∃ q, (execOp a.eval o).run P w = .ok (.value q) w ∧ Vl w S ρ x q) (hK : ∀ a' w', Rel F w0 S0 ρ0 N ds (s.put o.dst x hp2) a' w' → K a' w') : o.wp P a w K Q := by
  cases r with
  | none => cases h
  | some r =>
    obtain ⟨x', p'⟩ := r
    simp only [stV, Option.some.injEq, Prod.mk.injEq] at h
    obtain ⟨rfl, rfl, rfl⟩ := h
    obtain ⟨q, hq, hv⟩ := hr _ _ rfl hp'
    unfold Oper.wp
    rw [hq, Oper.upon_value]
    exact hK _ _ ⟨S, ρ, R.next R.heap (Ext.refl _ _ _) (fun _ h => .inl h) hd hv⟩
theorem step_newF {o : Oper} {ao : AOp} {x : AV} {hp2 : List AObj} {p : Prop} {K : Act → World → Prop} {Q : Exit → Act → World → Prop} (R : RelS F w0 S0 ρ0 N ds S ρ s a w) {fr : List (Nat × AV)} (hfr : FrOk w S ρ fr a.tmps) (hm : Mt2 P o.op ao) (h : stN ⟨fr, s.hp⟩ (anew ⟨fr, s.hp⟩ ao) = some (x, hp2, p)) (hp' : p) (hd : ∀ t, o.dst = some t → t < N)
    (hK : ∀ a' w', Rel F w0 S0 ρ0 N ds (s.put o.dst x hp2) a' w' → K a' w') : o.wp P a w K Q := by
  unfold stN at h
  split at h
  · rename_i xf ob p' hn
    simp only [Option.some.injEq, Prod.mk.injEq] at h
    obtain ⟨rfl, rfl, rfl⟩ := h
    obtain ⟨v, w', hrun, hb, hver, hid⟩ := anew_ok (s := ⟨fr, s.hp⟩) R.heap.obs R.heap.slt hfr hm hn hp'
    obtain ⟨L, h1, h2, h3⟩ := hid s.hp.length (R.heap.new _ (Nat.le_refl _))
    obtain ⟨H', hE⟩ := R.heap.push (S' := S) (ρ' := rset ρ s.hp.length 0 L) hb (fun _ h => h) (fun _ h => .inl h) (rset_mono (R.heap.new _ (Nat.le_refl _)) L) (fun i u hi => rset_ne _ _ _ _ (fun e => hi e.1)) h1
      (fun u hu => by rw [hver] at hu; rw [rset_ne _ _ _ _ (fun e => by omega)]; exact R.heap.new _ (Nat.le_refl _) u) h3
    unfold Oper.wp
    rw [hrun, Oper.upon_value]
    exact hK _ _ ⟨S, _, R.next H' hE (fun _ h => .inl h) hd h2⟩
  · cases h
theorem step_new {o : Oper} {ao : AOp} {x : AV} {hp2 : List AObj} {p : Prop} {K : Act → World → Prop} {Q : Exit → Act → World → Prop} (R : RelS F w0 S0 ρ0 N ds S ρ s a w) (hm : Mt2 P o.op ao) (h : stN s (anew s ao) = some (x, hp2, p)) (hp' : p) (hd : ∀ t, o.dst = some t → t < N)
    (hK : ∀ a' w', Rel F w0 S0 ρ0 N ds (s.put o.dst x hp2) a' w' → K a' w') : o.wp P a w K Q := step_newF R R.fr hm h hp' hd hK
theorem step_eff {o : Oper} {ao : AOp} {x : AV} {hp2 : List AObj} {p : Prop} {K : Act → World → Prop} {Q : Exit → Act → World → Prop} (R : RelS F w0 S0 ρ0 N ds S ρ s a w) (hm : Mt2 P o.op ao ∨ ∃ t A X rt, ao = .st rt (opd A) (opd X) ∧ o.op = .store t A X ∧ RtOk P t rt) (h : stE s (aeff s ao) = some (x, hp2, p)) (hp' : p) (hd : ∀ t, o.dst = some t → t < N)
    (hK : ∀ a' w', Rel F w0 S0 ρ0 N ds (s.put o.dst x hp2) a' w' → K a' w') : o.wp P a w K Q := by
  unfold stE at h
  split at h
  · rename_i x' id ob p' hn
    simp only [Option.some.injEq, Prod.mk.injEq] at h
    obtain ⟨rfl, rfl, rfl⟩ := h
    obtain ⟨q, w', ρ', hrun, hv, H', hE⟩ := aeff_ok R.heap R.fr hm hn hp'
    unfold Oper.wp
    rcases hrun with hrun | ⟨hrun, rfl⟩
    · rw [hrun, Oper.upon_value]
      exact hK _ _ ⟨S, ρ', R.next H' hE (fun _ h => .inl h) hd hv⟩
    · rw [hrun, Oper.upon_skip]
      exact hK _ _ ⟨S, ρ', R.next H' hE (fun _ h => .inl h) hd hv⟩
  · cases h
theorem astep_ok (hΦ : PhiOk P Φ) {o : Oper} {ao : AOp} {x : AV} {hp2 : List AObj} {p : Prop} {K : Act → World → Prop} {Q : Exit → Act → World → Prop} (R : Rel F w0 S0 ρ0 N ds s a w) (hm : MtA P o.op ao) (h : astep Φ s ao = some (x, hp2, p)) (hp' : p) (hd : ∀ t, o.dst = some t → t < N)
    (hK : ∀ a' w', Rel F w0 S0 ρ0 N ds (s.put o.dst x hp2) a' w' → K a' w') : o.wp P a w K Q := by
  obtain ⟨S, ρ, R⟩ := R
  have val : ∀ {ao : AOp}, Mt P o.op ao → stV s (aval s ao) = some (x, hp2, p) → o.wp P a w K Q := fun hm h => step_val R h hp' hd (fun x p e hq => aval_ok R.heap.obs R.fr hm e hq) hK
  cases ao <;> simp only [astep, MtA] at h hm
  case call f args =>
    obtain ⟨A, ts, ho, rfl⟩ := hm
    refine step_call hΦ R h hp' (args_ok R.fr A.toList) (fun hf => ?_) hd hK
    have := run_call (w := w) ho (show a.eval (.func f) = .func (.func f) #[] #[] from rfl) hf
    rw [this]; congr 2; apply Array.ext'; simp
  case callv g args =>
    obtain ⟨G, A, ts, ho, rfl, rfl⟩ := hm
    split at h
    · rename_i f cap hg
      split at h
      · rename_i hone
        rw [List.all_eq_true] at hone
        have hG := ev_ok R.fr G
        rw [hg] at hG
        obtain ⟨cv, hcv, hca⟩ : ∃ cv : List Value, a.eval G = .func (.func f) #[] cv.toArray ∧ ArgsOk w S ρ cap cv := by
          rcases hG with e | ⟨us, hc, e⟩
          · cases e
          · cases hc with
            | fn _ _ _ us vs h1 h2 h3 h4 =>
              have : us = [] := List.eq_nil_of_length_eq_zero (by simpa using h1)
              subst this
              refine ⟨vs, e, h2, fun i hi => ?_⟩
              have := h4 i hi
              have hm1 : (cap.getD i .top).one = true := by
                rw [List.getD_eq_getElem?_getD, List.getElem?_eq_getElem hi]
                exact hone _ (List.getElem_mem hi)
              refine Vl1.vl (.inr ⟨_, this, ?_⟩)
              have hm : (cap.getD i .top).multi = false := by
                cases hx : cap.getD i .top <;> rw [hx] at hm1 <;> first | rfl | cases hm1
              unfold wrapv; rw [hm]; rfl
        refine step_call hΦ R h hp' ((args_ok R.fr A.toList).append hca) (fun hf => ?_) hd hK
        have := run_call (w := w) ho hcv hf
        rw [this]; congr 2; apply Array.ext'; simp
      · cases h
    · cases h
  case app e sz b x' y' =>
    split at h
    · rename_i r hr
      rw [← hr] at h
      exact step_eff R (.inl hm) h hp' hd hK
    · exact step_new R hm h hp' hd hK
  case st rt a' x' =>
    obtain ⟨t, A, X, ho, ht, rfl, rfl⟩ := hm
    exact step_eff R (.inr ⟨t, A, X, rt, rfl, ho, ht⟩) h hp' hd hK
  case mark => exact step_eff R (.inl hm) h hp' hd hK
  case new => exact step_new R hm h hp' hd hK
  case box => exact step_new R hm h hp' hd hK
  case buildSl =>
    split at h
    · rename_i s' hs'
      obtain ⟨S', j1, j2, j3, j4⟩ := frzS_ok _ R.heap R.fr hs'
      have R1 : RelS F w0 S0 ρ0 N ds S' ρ ⟨s.fr, s'.hp⟩ a w := ⟨j1, R.fr.ext ⟨fun _ _ => rfl, j3, fun _ _ _ h => h⟩, R.size, R.dfr, fun b hb => (j4 b hb).elim (R.sin b) .inr, R.ext.trans ⟨fun _ _ => rfl, j3, fun _ _ _ h => h⟩⟩
      refine step_newF R1 (fr := s'.fr) j2 hm h hp' hd fun a' w' R' => hK a' w' ?_
      have e : (⟨s.fr, s'.hp⟩ : St).put o.dst x hp2 = s.put o.dst x hp2 := by cases o.dst <;> rfl
      rw [← e]; exact R'
    · cases h
  case mkSl => exact step_new R hm h hp' hd hK
  case bytes => exact step_new R hm h hp' hd hK
  all_goals exact val hm h
end
end Go.Proofs.Ytbefhofmbiedgaa
