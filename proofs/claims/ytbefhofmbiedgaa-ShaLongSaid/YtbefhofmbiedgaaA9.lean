/- All reading operations as one function, and that the model does so. Over any program; no condition. -/
import Derived.Test.YtbefhofmbiedgaaA8b
namespace Go.Proofs.Ytbefhofmbiedgaa
set_option linter.all false
open Go.RowKit

inductive AOp where
  | mv (x : Opd)
  | pick (c a b : Opd)
  | bin (op : BinOp) (x y : Opd)
  | eqB (neg : Bool) (x y : Opd)
  | eqA (neg : Bool) (n : Nat) (x y : Opd)
  | un (op : UnOp) (x : Opd)
  | toInt (k : IntKind) (x : Opd)
  | toStr (x : Opd)
  | same (x : Opd)
  | idxS (x i : Opd)
  | idxA (n : Nat) (z : AV) (x i : Opd)
  | ia (sz : Nat) (z : AV) (x i : Opd)
  | iaA (n : Nat) (x i : Opd)
  | fld (o : Nat) (rt : Rt) (x : Opd)
  | fa (o : Nat) (x : Opd)
  | ld (rt : Rt) (x : Opd)
  | slS (x : Opd) (lo hi : Option Opd)
  | sl (sz : Nat) (x : Opd) (lo hi : Option Opd)
  | ext (x : Opd) (i : Nat)
  | nck (x : Opd)
  | len (n : Option Nat) (str : Bool) (x : Opd)
  | mkfn (f : Fn) (first cap : List Opd)
  | mkif (t : TypeId) (x : Opd)
  | mm (mx : Bool) (x y : Opd)
  | build (zs : List (Nat × AV)) (parts : List (Nat × Nat × Opd))
  | buildA (zs : List Value) (parts : List (Nat × Opd))
  -- these make or write memory
  | new (t : TypeId) (ps : List (Nat × AV))
  | box (t : TypeId) (sz : Nat) (x : Opd)
  | buildSl (e : TypeId) (sz : Nat) (parts : List Opd)
  | mkSl (e : TypeId) (sz bytes : Nat) (z : AV) (l c : Opd)
  | bytes (e : TypeId) (x : Opd)
  | app (e : TypeId) (sz bytes : Nat) (s x : Opd)
  | appS (e : TypeId) (s x : Opd)
  | cpy (e : TypeId) (d x : Opd)
  | mark (x : Opd)
  | st (rt : Rt) (a x : Opd)
  | call (f : FuncId) (args : List Opd)
  | callv (f : Opd) (args : List Opd)

section
variable {P : Program} {F : Nat → Prop} {w0 w : World} {S : Nat → Prop} {ρ : Rho} {hp : List AObj}

def aEqB (neg : Bool) (x y : AV) : Option (AV × Prop) :=
  match x, y with
  | .bool a, .bool b => some (.bool (if neg then !(a == b) else a == b), True)
  | _, _ => none
def unV (cs : List Value) : List UInt8 := cs.map fun v => toB (ofC v)
theorem unV_U (l : List UInt8) : unV (l.map U) = l := by
  unfold unV; rw [List.map_map]
  have : ((fun v => toB (ofC v)) ∘ U) = id := by funext u; exact toB_ub u
  rw [this, List.map_id]
def aEqA (neg : Bool) (n : Nat) (x y : AV) : Option (AV × Prop) :=
  match x, y with
  | .blob a, .blob b => some (.bool (if neg then !decide (unV a = unV b) else decide (unV a = unV b)), a = (unV a).map U ∧ b = (unV b).map U ∧ (unV a).length = n ∧ (unV b).length = n)
  | _, _ => none
theorem run_neq_of {t : TypeId} {x y : Array Value} {b : Bool} (h : (binOp .eql t (.agg x) (.agg y)).run P w = .ok (.bool b) w) : (binOp .neq t (.agg x) (.agg y)).run P w = .ok (.bool (!b)) w := by
  simp only [binOp, Sem.run_bind] at h ⊢
  cases hr : (Op.equal t (.agg x) (.agg y)).run P w with
  | ok c w' =>
    rw [hr] at h
    simp only [Result.andThen_ok, Sem.run_pure, Result.ok.injEq, Value.bool.injEq] at h ⊢
    obtain ⟨rfl, rfl⟩ := h
    exact ⟨rfl, rfl⟩
  | halt c w' => rw [hr] at h; cases h
theorem aEqA_ok {neg : Bool} {n : Nat} {x y r : AV} {p : Prop} {v u : Value} (h : aEqA neg n x y = some (r, p)) (hp' : p) (hx : Vl w S ρ x v) (hy : Vl w S ρ y u) {t e : TypeId} (X Y : Operand) (ht : P.underlying t = some (.array n e)) (he : P.underlying e = some (.int .u8))
    (hsz : (P.info? e).map (·.size) = some 1) (hg : P.eqGuardType P.depth t = false) :
    ∃ q, (do eqGuard (if neg then .neq else .eql) t X Y v u; binOp (if neg then .neq else .eql) t v u).run P w = .ok q w ∧ Vl w S ρ r q := by
  unfold aEqA at h
  split at h
  · rename_i a b
    injection h with h; injection h with e1 e2; subst e1 e2
    obtain ⟨p1, p2, p3, p4⟩ := hp'
    rw [hx.blob, hy.blob]
    obtain ⟨j, hj1, hj2⟩ := Option.map_eq_some_iff.1 hsz
    have h1 := run_eql_bytes w t e n ht he (fun w => by simp [sizeOf, typeInfo, hj1, hj2]) (unV a) (unV b) p3 p4
    rw [show (List.map Extern.Stop.cell (unV a)) = (unV a).map U from rfl, show (List.map Extern.Stop.cell (unV b)) = (unV b).map U from rfl, ← p1, ← p2] at h1
    have e1 : (unV a == unV b) = decide (unV a = unV b) := by rw [Bool.eq_iff_iff]; simp
    rw [e1] at h1
    cases neg with
    | false =>
      simp only [Bool.false_eq_true, if_false, Sem.run_bind, run_eqGuard_agg _ _ _ _ _ _ _ hg, Result.andThen_ok, h1]
      exact ⟨_, rfl, Vl.bool' _⟩
    | true =>
      simp only [if_true, Sem.run_bind, run_eqGuard_agg _ _ _ _ _ _ _ hg, Result.andThen_ok, run_neq_of h1]
      exact ⟨_, rfl, Vl.bool' _⟩
  · cases h
def aMm (mx : Bool) (x y : AV) : Option (AV × Prop) :=
  match x, y with
  | .int k a, .int _ b => some (.int k (if mx then max a b else min a b), True)
  | _, _ => none
theorem aMm_ok {mx : Bool} {x y r : AV} {p : Prop} {v u : Value} (h : aMm mx x y = some (r, p)) (hx : Vl w S ρ x v) (hy : Vl w S ρ y u) (ts : Array TypeId) (t : TypeId) :
    ∃ q, (if mx then (Builtin.max_ ts t #[v, u]).run P w else (Builtin.min_ ts t #[v, u]).run P w) = .ok q w ∧ Vl w S ρ r q := by
  unfold aMm at h
  split at h
  · rename_i k a k' b
    injection h with h; injection h with e1 e2; subst e1 e2
    rw [hx.int, hy.int]
    cases mx with
    | false =>
      refine ⟨.int k (min a b), ?_, Vl.int' _ _⟩
      simp only [Bool.false_eq_true, if_false, Builtin.min_, List.foldlM, Builtin.min2]
      have : (if b < a then b else a) = min a b := by omega
      simp [this]
    | true =>
      refine ⟨.int k (max a b), ?_, Vl.int' _ _⟩
      simp only [if_true, Builtin.max_, List.foldlM, Builtin.max2]
      have : (if b > a then b else a) = max a b := by omega
      simp [this]
  · cases h
def aMkfn (f : Fn) (first cap : List AV) : Option (AV × Prop) := if first.all AV.one && cap.all AV.one then some (.fn f first cap, True) else none
def aMkif (t : TypeId) (x : AV) : Option (AV × Prop) :=
  match x with
  | .tup _ => none
  | .top => none
  | x => some (.iface t x, True)

/-- A struct's literal. -/
def aBuild (s : St) : List (Nat × AV) → List (Nat × Nat × Opd) → Option (List (Nat × AV) × Prop)
  | zs, [] => some (zs, True)
  | zs, (o, n, x) :: r => match szOk n (s.ev x), spl zs o n (pparts n (s.ev x)) with
    | some p, some zs' => match aBuild s zs' r with
      | some (q, p') => some (q, p ∧ p')
      | none => none
    | _, _ => none
/-- A value of one cell as the model's. -/
def toV : AV → Option Value
  | .int k n => some (.int k n)
  | .bool b => some (.bool b)
  | .str l => some (.string ⟨l.toArray⟩)
  | .con x => some x
  | _ => none
theorem toV_ok {x : AV} {u v : Value} (h : toV x = some u) (hx : Vl w S ρ x v) : v = u ∧ u.oneCell' = true := by
  have ho : x.one = true := by cases x <;> first | rfl | cases h
  have hc := (hx.cs1 ho).one v (by simp)
  have : v = u := by
    cases x <;> simp only [toV, reduceCtorEq, Option.some.injEq] at h
    case int => rw [hx.int, h]
    case bool => rw [hx.bool, h]
    case str => rw [hx.str, h]
    case con => rw [hx.con, h]
  exact ⟨this, this ▸ hc⟩
def aBuildA (s : St) : List Value → List (Nat × Opd) → Option (List Value)
  | zs, [] => some zs
  | zs, (i, x) :: r => if i < zs.length then match toV (s.ev x) with
    | some v => aBuildA s (zs.set i v) r
    | none => none else none
theorem aBuild_ok {s : St} {a : Act} (hf : FrOk w S ρ s.fr a.tmps) {place : Nat → Option (Nat × Nat)} : ∀ (parts : List (Nat × Operand)) (prs : List (Nat × Nat × Opd)) (zs qs : List (Nat × AV)) (p : Prop) (us : List Value),
    (∀ j : Nat, (parts[j]?).map (fun (q : Nat × Operand) => (place q.1, opd q.2)) = (prs[j]?).map fun (q : Nat × Nat × Opd) => (some (q.1, q.2.1), q.2.2)) → aBuild s zs prs = some (qs, p) → p → Css w S ρ zs us →
    ∃ us', Instr.fill place us.toArray (parts.map fun q => (q.1, a.eval q.2)) = some us'.toArray ∧ Css w S ρ qs us' := by
  intro parts
  induction parts with
  | nil =>
    intro prs zs qs p us hj h hp hz
    cases prs with
    | nil => simp only [aBuild, Option.some.injEq, Prod.mk.injEq] at h; obtain ⟨rfl, rfl⟩ := h; exact ⟨us, rfl, hz⟩
    | cons q prs => have := hj 0; simp at this
  | cons q parts ih =>
    intro prs zs qs p us hj h hp hz
    cases prs with
    | nil => have := hj 0; simp at this
    | cons r prs =>
      obtain ⟨i, X⟩ := q
      obtain ⟨o, n, x⟩ := r
      have h0 := hj 0
      simp only [List.getElem?_cons_zero, Option.map_some, Option.some.injEq, Prod.mk.injEq] at h0
      obtain ⟨h0, rfl⟩ := h0
      simp only [aBuild] at h
      split at h
      · rename_i p1 zs' hs1 hs2
        split at h
        · rename_i q' p' hq
          simp only [Option.some.injEq, Prod.mk.injEq] at h
          obtain ⟨rfl, rfl⟩ := h
          have hne : s.ev (opd X) ≠ .top := by intro e; rw [e] at hs1; cases hs1
          have hnt : ∀ xs, s.ev (opd X) ≠ .tup xs := by intro xs e; rw [e] at hs1; cases hs1
          obtain ⟨vs, hc, hv⟩ := (ev_ok hf X).cs hne hnt
          have hl := szOk_ok hc hs1 hp.1
          obtain ⟨k1, k2⟩ := spl_ok hz (Css.single hc hl) hs2
          have hcl := cells_wrapv hc (hc.multi_or hne)
          have hvs : (a.eval X).cells.size = n := by rw [hv, ← Array.length_toList, hcl, hl]
          obtain ⟨us', hf', hc'⟩ := ih prs zs' _ p' _ (fun j => by have := hj (j + 1); simpa using this) hq hp.2 k1
          refine ⟨us', ?_, hc'⟩
          rw [List.map_cons, fill_step h0 hvs (by simpa using k2), ← hf', hv, hcl]
        · cases h
      · cases h
theorem aBuildA_ok {s : St} {a : Act} (hf : FrOk w S ρ s.fr a.tmps) : ∀ (parts : List (Nat × Operand)) (zs qs : List Value),
    aBuildA s zs (parts.map fun q => (q.1, opd q.2)) = some qs → (∀ u ∈ zs, u.oneCell' = true) → Instr.fill (fun i => some (i * 1, 1)) zs.toArray (parts.map fun q => (q.1, a.eval q.2)) = some qs.toArray ∧ (∀ u ∈ qs, u.oneCell' = true) := by
  intro parts
  induction parts with
  | nil => intro zs qs h ho; simp only [List.map_nil, aBuildA, Option.some.injEq] at h; subst h; exact ⟨rfl, ho⟩
  | cons q parts ih =>
    intro zs qs h ho
    obtain ⟨i, X⟩ := q
    simp only [List.map_cons, aBuildA] at h
    split at h
    · rename_i hi
      split at h
      · rename_i v hv
        obtain ⟨e, h1⟩ := toV_ok hv (ev_ok hf X)
        have hc : (a.eval X).cells = #[v] := by rw [e]; cases v <;> first | rfl | cases h1
        obtain ⟨k1, k2⟩ := ih _ _ h (fun u hu => by
          rcases List.mem_or_eq_of_mem_set hu with hu | rfl
          · exact ho u hu
          · exact h1)
        refine ⟨?_, k2⟩
        rw [List.map_cons, fill_step (off := i * 1) (sz := 1) rfl (by rw [hc]; rfl) (by simp; omega), ← k1, hc]
        congr 2
        simp only [Nat.mul_one, List.set_eq_take_append_cons_drop, if_pos hi]
        simp
      · cases h
    · cases h

def aval (s : St) : AOp → Option (AV × Prop)
  | .mv x => some (s.ev x, True)
  | .pick c a b => match s.ev c with
    | .bool t => some (if t then s.ev a else s.ev b, True)
    | _ => none
  | .bin op x y => aBin op (s.ev x) (s.ev y)
  | .eqB neg x y => aEqB neg (s.ev x) (s.ev y)
  | .eqA neg n x y => aEqA neg n (s.ev x) (s.ev y)
  | .un op x => aUn op (s.ev x)
  | .toInt k x => aToInt k (s.ev x)
  | .toStr x => aToStr s.hp (s.ev x)
  | .same x => match s.ev x with
    | .str l => some (.str l, True)
    | _ => none
  | .idxS x i => aIdxS (s.ev x) (s.ev i)
  | .idxA n z x i => aIdxA n z (s.ev x) (s.ev i)
  | .ia sz z x i => aIa s.hp sz z (s.ev x) (s.ev i)
  | .iaA n x i => aIaA n (s.ev x) (s.ev i)
  | .fld o rt x => aFld o rt (s.ev x)
  | .fa o x => aFa o (s.ev x)
  | .ld rt x => aLd s.hp rt (s.ev x)
  | .slS x lo hi => aSlS (s.ev x) (lo.map s.ev) (hi.map s.ev)
  | .sl sz x lo hi => aSl s.hp sz (s.ev x) (lo.map s.ev) (hi.map s.ev)
  | .ext x i => aExt (s.ev x) i
  | .nck x => aNck (s.ev x)
  | .len n str x => if n.isSome || (s.ev x).isStr == str then aLen s.hp n (s.ev x) else none
  | .mkfn f first cap => aMkfn f (first.map s.ev) (cap.map s.ev)
  | .mkif t x => aMkif t (s.ev x)
  | .mm mx x y => aMm mx (s.ev x) (s.ev y)
  | .build zs parts => (aBuild s zs parts).map fun (q : List (Nat × AV) × Prop) => (.agg q.1, q.2)
  | .buildA zs parts => (aBuildA s zs parts).map fun q => (.blob q, True)
  | _ => none

/-- The model's operation is this one. -/
def Mt (P : Program) (op : Op) : AOp → Prop
  | .mv x => ∃ X, (op = .move X ∨ op = .assign X) ∧ x = opd X
  | .pick c a b => ∃ C A B, op = .pick C A B ∧ c = opd C ∧ a = opd A ∧ b = opd B
  | .bin b x y => ∃ t X Y t', op = .binOp b t X Y t' ∧ x = opd X ∧ y = opd Y
  | .eqB neg x y => ∃ t X Y t', op = .binOp (if neg then .neq else .eql) t X Y t' ∧ P.underlying t = some .bool ∧ x = opd X ∧ y = opd Y
  | .eqA neg n x y => ∃ t X Y t' e, op = .binOp (if neg then .neq else .eql) t X Y t' ∧ P.underlying t = some (.array n e) ∧ P.underlying e = some (.int .u8) ∧ (P.info? e).map (·.size) = some 1 ∧ P.eqGuardType P.depth t = false ∧ x = opd X ∧ y = opd Y
  | .un b x => ∃ t X, op = .unOp b t X ∧ x = opd X
  | .toInt k x => ∃ src dst X, op = .convert src dst X ∧ (P.underlying src).isSome = true ∧ P.underlying dst = some (.int k) ∧ x = opd X
  | .toStr x => ∃ src dst e X, op = .convert src dst X ∧ P.underlying src = some (.slice e) ∧ P.underlying e = some (.int .u8) ∧ P.underlying dst = some .string ∧ x = opd X
  | .same x => ∃ src dst X, op = .convert src dst X ∧ P.underlying src = some .string ∧ P.underlying dst = some .string ∧ x = opd X
  | .idxS x i => ∃ t X I, op = .index t X I ∧ P.underlying t = some .string ∧ x = opd X ∧ i = opd I
  | .idxA n _ x i => ∃ t e X I, op = .index t X I ∧ P.underlying t = some (.array n e) ∧ (P.info? e).map (·.size) = some 1 ∧ (match P.underlying e with | some (.struct _) | some (.array _ _) | none => false | _ => true) = true ∧ x = opd X ∧ i = opd I
  | .ia sz _ x i => ∃ t e X I, op = .indexAddr t X I ∧ P.underlying t = some (.slice e) ∧ (P.info? e).map (·.size) = some sz ∧ x = opd X ∧ i = opd I
  | .iaA n x i => ∃ t e X I, op = .indexAddr t X I ∧ P.underlying t = some (.array n e) ∧ (P.info? e).map (·.size) = some 1 ∧ x = opd X ∧ i = opd I
  | .fld o rt x => ∃ t fs k f X, op = .field t X k ∧ P.underlying t = some (.struct fs) ∧ fs[k]? = some f ∧ f.offset = o ∧ RtOk P f.type rt ∧ x = opd X
  | .fa o x => ∃ t fs k f X, op = .fieldAddr t X k ∧ P.underlying t = some (.struct fs) ∧ fs[k]? = some f ∧ f.offset = o ∧ (P.info? f.type).map (fun i => decide (i.size = 0)) = some false ∧ x = opd X
  | .ld rt x => ∃ t X, op = .load t X ∧ RtOk P t rt ∧ x = opd X
  | .slS x lo hi => ∃ t X L H, op = .slice t X L H none ∧ P.underlying t = some .string ∧ x = opd X ∧ lo = L.map opd ∧ hi = H.map opd
  | .sl sz x lo hi => ∃ t e X L H, op = .slice t X L H none ∧ P.underlying t = some (.slice e) ∧ (P.info? e).map (·.size) = some sz ∧ x = opd X ∧ lo = L.map opd ∧ hi = H.map opd
  | .ext x i => ∃ X, op = .extract X i ∧ x = opd X
  | .nck x => ∃ X, op = .nilCheck X ∧ x = opd X
  | .len n str x => ∃ X t, op = .call { callee := .builtin .len, args := #[X], argTypes := #[t] } ∧ LenOk P t n ∧ (n = none → if str then P.underlying t = some .string else ∃ e, P.underlying t = some (.slice e)) ∧ x = opd X
  | .mkfn f first cap => ∃ A B, op = .makeFunc f A B ∧ first = A.toList.map opd ∧ cap = B.toList.map opd
  | .mkif t x => ∃ X, op = .makeInterface t X ∧ P.concrete t = true ∧ x = opd X
  | .mm mx x y => ∃ X Y ts, op = .call { callee := .builtin (if mx then .max else .min), args := #[X, Y], argTypes := ts } ∧ x = opd X ∧ y = opd Y
  | .build zs prs => ∃ t parts z place, op = .build t parts ∧ (∀ vs, P.built t vs = Instr.fill place z vs) ∧ (∀ (w : World) (S : Nat → Prop) (ρ : Rho), Css w S ρ zs z.toList) ∧
      (∀ j : Nat, (parts.toList[j]?).map (fun (q : Nat × Operand) => (place q.1, opd q.2)) = (prs[j]?).map fun (q : Nat × Nat × Opd) => (some (q.1, q.2.1), q.2.2))
  | .buildA zs prs => ∃ t parts, op = .build t parts ∧ (∀ vs, P.built t vs = Instr.fill (fun i => some (i * 1, 1)) zs.toArray vs) ∧ (zs.all fun u => u.oneCell') = true ∧ prs = parts.toList.map fun (q : Nat × Operand) => (q.1, opd q.2)
  | _ => False

theorem bd_ok {s : St} {a : Act} (h : FrOk w S ρ s.fr a.tmps) (L : Option Operand) : Bd w S ρ ((L.map opd).map s.ev) (L.map a.eval) := by
  cases L with
  | none => trivial
  | some x => exact ev_ok h x
theorem run_value {m : Sem Value} {q : Value} (h : m.run P w = .ok q w) : (do pure (Next.value (← m)) : Sem Next).run P w = .ok (.value q) w := by
  simp only [Sem.run_bind, h, Result.andThen_ok]; rfl
theorem aval_ok {s : St} {a : Act} {o : Oper} {ao : AOp} {r : AV} {p : Prop} (H : ObsOk w S ρ s.hp) (hf : FrOk w S ρ s.fr a.tmps) (hm : Mt P o.op ao) (h : aval s ao = some (r, p)) (hp' : p) :
    ∃ q, (execOp a.eval o).run P w = .ok (.value q) w ∧ Vl w S ρ r q := by
  have ev := ev_ok hf
  cases ao <;> simp only [aval, reduceCtorEq] at h
  case mv x =>
    obtain ⟨X, ho, rfl⟩ := hm
    injection h with h; injection h with e1 e2; subst e1
    rcases ho with ho | ho <;> exact ⟨a.eval X, by simp [execOp, ho], ev X⟩
  case pick c a' b =>
    obtain ⟨C, A, B, ho, rfl, rfl, rfl⟩ := hm
    split at h
    · rename_i t hc
      injection h with h; injection h with e1 e2; subst e1
      have hC := ev C
      rw [hc] at hC
      have hC' := hC.bool
      cases t with
      | true => exact ⟨a.eval A, by simp [execOp, ho, hC', asBool], ev A⟩
      | false => exact ⟨a.eval B, by simp [execOp, ho, hC', asBool], ev B⟩
    · cases h
  case bin op x y =>
    obtain ⟨t, X, Y, t', ho, rfl, rfl⟩ := hm
    obtain ⟨q, hq, hv⟩ := aBin_ok (P := P) h hp' (ev X) (ev Y) t X Y
    exact ⟨q, by simp only [execOp, ho]; exact run_value hq, hv⟩
  case eqB neg x y =>
    obtain ⟨t, X, Y, t', ho, ht, rfl, rfl⟩ := hm
    unfold aEqB at h
    split at h
    · rename_i u v hu hv
      injection h with h; injection h with e1 e2; subst e1
      have h1 := (hu ▸ ev X).bool
      have h2 := (hv ▸ ev Y).bool
      refine ⟨_, ?_, Vl.bool' _⟩
      simp only [execOp, ho, h1, h2]
      refine run_value ?_
      cases neg with
      | false => simp [eqGuard_at_bool, run_eql_bool _ _ _ _ ht]
      | true => simp [eqGuard_at_bool, run_neq_bool _ _ _ _ ht]
    · cases h
  case eqA neg n x y =>
    obtain ⟨t, X, Y, t', e, ho, h1, h2, h3, h4, rfl, rfl⟩ := hm
    obtain ⟨q, hq, hv⟩ := aEqA_ok (P := P) h hp' (ev X) (ev Y) X Y h1 h2 h3 h4
    exact ⟨q, by simp only [execOp, ho]; exact run_value hq, hv⟩
  case un b x =>
    obtain ⟨t, X, ho, rfl⟩ := hm
    obtain ⟨q, hq, hv⟩ := aUn_ok (P := P) h hp' (ev X)
    exact ⟨q, by simp only [execOp, ho]; exact run_value hq, hv⟩
  case toInt k x =>
    obtain ⟨src, dst, X, ho, h1, h2, rfl⟩ := hm
    obtain ⟨q, hq, hv⟩ := aToInt_ok (P := P) h hp' (ev X) h1 h2
    exact ⟨q, by simp only [execOp, ho]; exact run_value hq, hv⟩
  case toStr x =>
    obtain ⟨src, dst, e, X, ho, h1, h2, h3, rfl⟩ := hm
    obtain ⟨q, hq, hv⟩ := aToStr_ok (P := P) H h hp' (ev X) h1 h2 h3
    exact ⟨q, by simp only [execOp, ho]; exact run_value hq, hv⟩
  case same x =>
    obtain ⟨src, dst, X, ho, h1, h2, rfl⟩ := hm
    split at h
    · rename_i l hl
      injection h with h; injection h with e1 e2; subst e1
      have h3 := (hl ▸ ev X).str
      refine ⟨_, ?_, Vl.str' _⟩
      simp only [execOp, ho, h3]
      exact run_value (by simp [convert, run_underlying h1, run_underlying h2])
    · cases h
  case idxS x i =>
    obtain ⟨t, X, I, ho, h1, rfl, rfl⟩ := hm
    obtain ⟨q, hq, hv⟩ := aIdxS_ok (P := P) h hp' (ev X) (ev I) h1
    exact ⟨q, by simp only [execOp, ho]; exact run_value hq, hv⟩
  case idxA n z x i =>
    obtain ⟨t, e, X, I, ho, h1, h2, h3, rfl, rfl⟩ := hm
    obtain ⟨q, hq, hv⟩ := aIdxA_ok (P := P) h hp' (ev X) (ev I) h1 h2 h3
    exact ⟨q, by simp only [execOp, ho]; exact run_value hq, hv⟩
  case ia sz z x i =>
    obtain ⟨t, e, X, I, ho, h1, h2, rfl, rfl⟩ := hm
    obtain ⟨q, hq, hv⟩ := aIa_ok (P := P) H h hp' (ev X) (ev I) h1 h2
    exact ⟨q, by simp only [execOp, ho]; exact run_value hq, hv⟩
  case iaA n x i =>
    obtain ⟨t, e, X, I, ho, h1, h2, rfl, rfl⟩ := hm
    obtain ⟨q, hq, hv⟩ := aIaA_ok (P := P) h hp' (ev X) (ev I) h1 h2
    exact ⟨q, by simp only [execOp, ho]; exact run_value hq, hv⟩
  case fld o' rt x =>
    obtain ⟨t, fs, k, f, X, ho, h1, h2, rfl, h4, rfl⟩ := hm
    obtain ⟨q, hq, hv⟩ := aFld_ok (P := P) h hp' (ev X) h1 h2 h4
    exact ⟨q, by simp only [execOp, ho]; exact run_value hq, hv⟩
  case fa o' x =>
    obtain ⟨t, fs, k, f, X, ho, h1, h2, rfl, h4, rfl⟩ := hm
    obtain ⟨q, hq, hv⟩ := aFa_ok (P := P) h (ev X) h1 h2 h4
    exact ⟨q, by simp only [execOp, ho]; exact run_value hq, hv⟩
  case ld rt x =>
    obtain ⟨t, X, ho, h1, rfl⟩ := hm
    obtain ⟨q, hq, hv⟩ := aLd_ok (P := P) H h hp' (ev X) h1
    exact ⟨q, by simp only [execOp, ho]; exact run_value hq, hv⟩
  case slS x lo hi =>
    obtain ⟨t, X, L, U, ho, h1, rfl, rfl, rfl⟩ := hm
    obtain ⟨q, hq, hv⟩ := aSlS_ok (P := P) h hp' (ev X) (bd_ok hf L) (bd_ok hf U) h1
    exact ⟨q, by simp only [execOp, ho]; exact run_value hq, hv⟩
  case sl sz x lo hi =>
    obtain ⟨t, e, X, L, U, ho, h1, h2, rfl, rfl, rfl⟩ := hm
    obtain ⟨q, hq, hv⟩ := aSl_ok (P := P) H h hp' (ev X) (bd_ok hf L) (bd_ok hf U) h1 h2
    exact ⟨q, by simp only [execOp, ho]; exact run_value hq, hv⟩
  case ext x i =>
    obtain ⟨X, ho, rfl⟩ := hm
    obtain ⟨q, hq, hv⟩ := aExt_ok (P := P) h hp' (ev X)
    exact ⟨q, by simp only [execOp, ho]; exact run_value hq, hv⟩
  case nck x =>
    obtain ⟨X, ho, rfl⟩ := hm
    exact aNck_ok ho h (ev X)
  case len n str x =>
    obtain ⟨X, t, ho, h1, h2, rfl⟩ := hm
    split at h
    · rename_i hs
      obtain ⟨q, hq, hv⟩ := aLen_ok (P := P) (ty := o.type) H h (ev X) h1 (fun hn => by
        have h3 := h2 hn
        rw [hn] at hs
        simp only [Option.isSome_none, Bool.false_or, beq_iff_eq] at hs
        rw [← hs] at h3
        constructor
        · intro e; rw [e] at h3; simpa using h3
        · intro e; rw [e] at h3; simpa using h3)
      refine ⟨q, ?_, hv⟩
      simp only [execOp, ho, resolve, Sem.run_bind, Sem.run_pure, Result.andThen_ok, invoke, builtin, List.map_toArray, List.map_cons, List.map_nil, hq]
    · cases h
  case mkfn f first cap =>
    obtain ⟨A, B, ho, rfl, rfl⟩ := hm
    unfold aMkfn at h
    split at h
    · rename_i hone
      injection h with h; injection h with e1 e2; subst e1
      simp only [Bool.and_eq_true, List.all_eq_true] at hone
      have one : ∀ (l : List Operand), (∀ x ∈ (l.map opd).map s.ev, AV.one x = true) → ∀ i, i < ((l.map opd).map s.ev).length → Cs w S ρ (((l.map opd).map s.ev).getD i .top) [(l.map a.eval).getD i undef] := by
        intro l hl i hi
        simp only [List.length_map] at hi
        have h1 : ((l.map opd).map s.ev).getD i .top = s.ev (opd l[i]) := by
          rw [List.getD_eq_getElem?_getD, List.getElem?_map, List.getElem?_map, List.getElem?_eq_getElem hi]; rfl
        have h2 : (l.map a.eval).getD i undef = a.eval l[i] := by
          rw [List.getD_eq_getElem?_getD, List.getElem?_map, List.getElem?_eq_getElem hi]; rfl
        rw [h1, h2]
        refine (ev l[i]).cs1 (hl _ ?_)
        exact List.mem_map.2 ⟨opd l[i], List.mem_map.2 ⟨l[i], List.getElem_mem hi, rfl⟩, rfl⟩
      refine ⟨.func f (A.toList.map a.eval).toArray (B.toList.map a.eval).toArray, ?_, .inr ⟨_, .fn f _ _ (A.toList.map a.eval) (B.toList.map a.eval) (by simp) (by simp) (one _ hone.1) (one _ hone.2), rfl⟩⟩
      simp only [execOp, ho]
      refine run_value ?_
      obtain ⟨A⟩ := A
      obtain ⟨B⟩ := B
      simp [Instr.makeFunc]
    · cases h
  case mkif t x =>
    obtain ⟨X, ho, h1, rfl⟩ := hm
    unfold aMkif at h
    split at h
    · cases h
    · cases h
    · rename_i hne1 hne2
      injection h with h; injection h with e1 e2; subst e1
      refine ⟨.iface t (a.eval X), by simp only [execOp, ho]; exact run_value (run_makeInterface _ _ _ h1), ?_⟩
      obtain ⟨us, hc, e⟩ := (ev X).cs hne2 hne1
      rw [e]; exact .inr ⟨_, .iface t _ us hc, rfl⟩
  case build zs prs =>
    obtain ⟨t, parts, z, place, ho, h1, h2, h3⟩ := hm
    obtain ⟨⟨q1, q2⟩, hq, e⟩ := Option.map_eq_some_iff.1 h
    injection e with e1 e2; subst e1 e2
    obtain ⟨us', k1, k2⟩ := aBuild_ok hf parts.toList prs zs _ _ z.toList h3 hq hp' (h2 w S ρ)
    refine ⟨.agg us'.toArray, ?_, Vl.agg' k2.cs⟩
    simp only [execOp, ho]
    refine run_value (run_build w t _ _ ?_)
    rw [h1, ← k1]
    simp
  case buildA zs prs =>
    obtain ⟨t, parts, ho, h1, h2, rfl⟩ := hm
    obtain ⟨q, hq, e⟩ := Option.map_eq_some_iff.1 h
    injection e with e1 e2; subst e1 e2
    rw [List.all_eq_true] at h2
    obtain ⟨k1, k2⟩ := aBuildA_ok hf parts.toList zs q hq h2
    refine ⟨.agg q.toArray, ?_, Vl.blob' _ k2⟩
    simp only [execOp, ho]
    refine run_value (run_build w t _ _ ?_)
    rw [h1, ← k1]
    simp
  case mm mx x y =>
    obtain ⟨X, Y, ts, ho, rfl, rfl⟩ := hm
    obtain ⟨q, hq, hv⟩ := aMm_ok (P := P) h (ev X) (ev Y) ts o.type
    refine ⟨q, ?_, hv⟩
    cases mx with
    | true => simp only [if_true] at hq ho; simp only [execOp, ho, resolve, Sem.run_bind, Sem.run_pure, Result.andThen_ok, invoke, builtin, List.map_toArray, List.map_cons, List.map_nil, hq]
    | false => simp only [Bool.false_eq_true, if_false] at hq ho; simp only [execOp, ho, resolve, Sem.run_bind, Sem.run_pure, Result.andThen_ok, invoke, builtin, List.map_toArray, List.map_cons, List.map_nil, hq]
end
end Go.Proofs.Ytbefhofmbiedgaa
