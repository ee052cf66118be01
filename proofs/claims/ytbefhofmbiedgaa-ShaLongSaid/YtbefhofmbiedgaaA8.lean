/- Components, lengths, functions, equality, small calls on abstract values; all reading operations as one. Over any program; no condition. -/
import Derived.Test.YtbefhofmbiedgaaA7
import Derived.Laws.StructEq
namespace Go.Proofs.Ytbefhofmbiedgaa
set_option linter.all false
open Go.RowKit

section
variable {P : Program} {F : Nat → Prop} {w0 w : World} {S : Nat → Prop} {ρ : Rho} {hp : List AObj}

theorem Vl1.vl {x : AV} {v : Value} (h : Vl1 w S ρ x v) : Vl w S ρ x v := by
  cases x
  case tup xs =>
    rcases h with h | ⟨us, h, _⟩
    · cases h
    · cases h
  all_goals exact h
def aExt (x : AV) (i : Nat) : Option (AV × Prop) :=
  match x with
  | .tup xs => some (xs.getD i .top, i < xs.length)
  | _ => none
theorem aExt_ok {x r : AV} {i : Nat} {p : Prop} {v : Value} (h : aExt x i = some (r, p)) (hp' : p) (hx : Vl w S ρ x v) : ∃ q, (Instr.extract v i).run P w = .ok q w ∧ Vl w S ρ r q := by
  unfold aExt at h
  split at h
  · rename_i xs
    injection h with h; injection h with e1 e2; subst e1 e2
    obtain ⟨vs, rfl, h2, h3⟩ := hx
    refine ⟨vs.getD i undef, ?_, (h3 i hp').vl⟩
    have : vs.toArray[i]? = some (vs.getD i undef) := by
      rw [List.getElem?_toArray, List.getD_eq_getElem?_getD, List.getElem?_eq_getElem (by omega)]; rfl
    simp only [Instr.extract, this]; rfl
  · cases h
/-- Not nil. -/
def aNck (x : AV) : Option (AV × Prop) :=
  match x with
  | .ref _ _ _ => some (x, True)
  | .ptr _ _ _ _ => some (x, True)
  | .rowp _ _ _ _ _ _ => some (x, True)
  | .fn (.func _) _ _ => some (x, True)
  | _ => none
theorem aNck_ok {x r : AV} {p : Prop} {X : Operand} {o : Oper} {a : Act} (ho : o.op = .nilCheck X) (h : aNck x = some (r, p)) (hx : Vl w S ρ x (a.eval X)) : ∃ q, (execOp a.eval o).run P w = .ok (.value q) w ∧ Vl w S ρ r q := by
  have key : ∀ v, a.eval X = v → (∀ ad, v = .pointer (some ad) → (execOp a.eval o).run P w = .ok (.value v) w) ∧ (∀ f us vs, v = .func (.func f) us vs → (execOp a.eval o).run P w = .ok (.value v) w) := by
    intro v hv
    constructor
    · rintro ad rfl; simp [execOp, ho, hv]
    · rintro f us vs rfl; simp [execOp, ho, hv]
  unfold aNck at h
  split at h
  · injection h with h; injection h with e1 e2; subst e1 e2
    obtain ⟨g, L, h1, h2, e⟩ := hx.ref
    exact ⟨_, (key _ e).1 _ rfl, by rw [e] at hx; exact hx⟩
  · injection h with h; injection h with e1 e2; subst e1 e2
    obtain ⟨us, b, base, h1, h2, h3, h4, e⟩ := hx.ptr
    exact ⟨_, (key _ e).1 _ rfl, by rw [e] at hx; exact hx⟩
  · injection h with h; injection h with e1 e2; subst e1 e2
    obtain ⟨g, L, h1, h2, e⟩ := hx.rowp
    exact ⟨_, (key _ e).1 _ rfl, by rw [e] at hx; exact hx⟩
  · injection h with h; injection h with e1 e2; subst e1 e2
    rename_i f first cap
    have : ∃ us vs, a.eval X = .func (.func f) us vs := by
      rcases hx with h | ⟨us, h, e⟩
      · cases h
      · cases h with
        | fn _ _ _ us vs => exact ⟨_, _, e⟩
    obtain ⟨us, vs, e⟩ := this
    exact ⟨_, (key _ e).2 _ _ _ rfl, by rw [e] at hx; exact hx⟩
  · cases h

def AV.isStr : AV → Bool
  | .str _ => true
  | _ => false
/-- len; n: the length that the type tells. -/
def aLen (hp : List AObj) (n : Option Nat) (x : AV) : Option (AV × Prop) :=
  match n with
  | some n => some (.int .i64 n, True)
  | none => match x with
    | .str l => some (.int .i64 l.length, True)
    | .sl _ xs => some (.int .i64 xs.length, True)
    | .con u => if nilS u then some (.int .i64 0, True) else none
    | .own id v => match hp[id]? with
      | some (.row _ _ v' xs) => if v = v' then some (.int .i64 xs.length, True) else none
      | some (.froz _ v' xs) => if v = v' then some (.int .i64 xs.length, True) else none
      | _ => none
    | .ownv _ _ _ m => some (.int .i64 m, True)
    | _ => none
def LenOk (P : Program) (t : TypeId) : Option Nat → Prop
  | some n => ∃ e, P.underlying t = some (.array n e)
  | none => P.underlying t = some .string ∨ ∃ e, P.underlying t = some (.slice e)
theorem aLen_ok (H : ObsOk w S ρ hp) {n : Option Nat} {x r : AV} {p : Prop} {v : Value} (h : aLen hp n x = some (r, p)) (hx : Vl w S ρ x v) {t ty : TypeId} (ht : LenOk P t n) (hk : n = none → (x.isStr = true → P.underlying t = some .string) ∧ (x.isStr = false → ∃ e, P.underlying t = some (.slice e))) :
    ∃ q, (Builtin.len_ #[t] ty #[v]).run P w = .ok q w ∧ Vl w S ρ r q := by
  have str : P.underlying t = some .string → ∀ l : List UInt8, v = .string ⟨l.toArray⟩ → (Builtin.len_ #[t] ty #[v]).run P w = .ok (.int .i64 l.length) w := by
    rintro hn l rfl
    rw [run_len_string _ _ _ _ hn]; rfl
  have slc : (∃ e, P.underlying t = some (.slice e)) → ∀ A m c, v = .slice A m c → (Builtin.len_ #[t] ty #[v]).run P w = .ok (.int .i64 m) w := by
    rintro ⟨e, he⟩ A m c rfl
    simp [Builtin.len_, run_underlying he, goInt]
  unfold aLen at h
  split at h
  · rename_i m
    injection h with h; injection h with e1 e2; subst e1 e2
    obtain ⟨e, he⟩ := ht
    exact ⟨.int .i64 m, by simp [Builtin.len_, run_underlying he, goInt], Vl.int' _ _⟩
  · split at h
    · injection h with h; injection h with e1 e2; subst e1 e2
      exact ⟨_, str ((hk rfl).1 rfl) _ hx.str, Vl.int' _ _⟩
    · rename_i sz xs
      injection h with h; injection h with e1 e2; subst e1 e2
      obtain ⟨A, m, c, us, e, hM⟩ := Mem.of_sl hx.sl
      rw [← hM.len]
      exact ⟨_, slc ((hk rfl).2 rfl) _ _ _ e, Vl.int' _ _⟩
    · rename_i u
      split at h
      · rename_i hu
        injection h with h; injection h with e1 e2; subst e1 e2
        exact ⟨_, slc ((hk rfl).2 rfl) _ _ _ (hx.con.trans (nilS_eq hu)), Vl.int' _ _⟩
      · cases h
    · rename_i id ver
      obtain ⟨L, hL, e⟩ := hx.own
      split at h
      · rename_i e' s v' xs ho
        split at h
        · rename_i e2; subst e2; injection h with h; injection h with e1 e2; subst e1 e2
          obtain ⟨L', us, m1, m2, _⟩ := H _ _ ho (by simp)
          rw [hL] at m1; injection m1 with m1; subst m1
          rw [← m2]
          exact ⟨_, slc ((hk rfl).2 rfl) _ _ _ e, Vl.int' _ _⟩
        · cases h
      · rename_i s v' xs ho
        split at h
        · rename_i e2; subst e2; injection h with h; injection h with e1 e2; subst e1 e2
          obtain ⟨L', m1, m2, _⟩ := H _ _ ho (by simp)
          rw [hL] at m1; injection m1 with m1; subst m1
          rw [← m2]
          exact ⟨_, slc ((hk rfl).2 rfl) _ _ _ e, Vl.int' _ _⟩
        · cases h
      · cases h
    · injection h with h; injection h with e1 e2; subst e1 e2
      obtain ⟨L, A0, hL, hm, hA0, e⟩ := hx.ownv
      exact ⟨_, slc ((hk rfl).2 rfl) _ _ _ e, Vl.int' _ _⟩
    · cases h

/-- One cell. -/
def AV.one : AV → Bool
  | .blob _ | .agg _ | .tup _ | .top => false
  | _ => true
theorem Vl.cs {x : AV} {v : Value} (h : Vl w S ρ x v) (h0 : x ≠ .top) (h1 : ∀ xs, x ≠ .tup xs) : ∃ us, Cs w S ρ x us ∧ v = wrapv x us := by
  rcases h.to1 h1 with e | h
  · exact absurd e h0
  · exact h
theorem Vl.cs1 {x : AV} {v : Value} (h : Vl w S ρ x v) (h1 : x.one = true) : Cs w S ρ x [v] := by
  obtain ⟨us, hc, rfl⟩ := h.cs (by rintro rfl; cases h1) (by rintro xs rfl; cases h1)
  cases hc <;> first | (cases h1; done) | (simp only [wrapv, AV.multi, Bool.false_eq_true, if_false, List.headD_cons]; constructor <;> assumption)
end
end Go.Proofs.Ytbefhofmbiedgaa
