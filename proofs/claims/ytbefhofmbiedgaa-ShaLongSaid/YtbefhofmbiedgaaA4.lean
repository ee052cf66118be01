/- What the operations that only read give, on abstract values; each is shown to be so in the model. Over any program; no condition. -/
import Derived.Test.YtbefhofmbiedgaaA3
namespace Go.Proofs.Ytbefhofmbiedgaa
set_option linter.all false
open Go.RowKit

def inI (n : Int) : Prop := -9223372036854775808 ≤ n ∧ n ≤ 9223372036854775807
theorem wrap_inI {n : Int} (h : inI n) : IntKind.i64.wrap n = n := by
  unfold inI at h
  exact IntWalk.i64_in n (by omega)
def arI (k : IntKind) (n : Int) (p : Prop) : AV × Prop :=
  match k with
  | .i64 => (.int .i64 n, p ∧ inI n)
  | k => (.int k (k.wrap n), p)
theorem arI_ok {w : World} {S : Nat → Prop} {ρ : Rho} {k : IntKind} {n : Int} {p : Prop} (h : (arI k n p).2) : p ∧ Vl w S ρ (arI k n p).1 (.int k (k.wrap n)) := by
  cases k
  case i64 => exact ⟨h.1, by have := wrap_inI h.2; unfold arI; simp only; rw [this]; exact Vl.int' _ _⟩
  all_goals exact ⟨h, Vl.int' _ _⟩

def aInt (op : BinOp) (k : IntKind) (a b : Int) : Option (AV × Prop) :=
  match op with
  | .add => some (arI k (a + b) True)
  | .sub => some (arI k (a - b) True)
  | .mul => some (arI k (a * b) True)
  | .quo => some (arI k (a.tdiv b) (b ≠ 0))
  | .rem => some (.int k (a.tmod b), b ≠ 0)
  | .and => some (.int k (bits .and k a b), True)
  | .or => some (.int k (bits .or k a b), True)
  | .xor => some (.int k (bits .xor k a b), True)
  | .andNot => some (.int k (bits .andNot k a b), True)
  | .eql => some (.bool (decide (a = b)), True)
  | .neq => some (.bool (!decide (a = b)), True)
  | .lss => some (.bool (decide (a < b)), True)
  | .leq => some (.bool (decide (a ≤ b)), True)
  | .gtr => some (.bool (decide (b < a)), True)
  | .geq => some (.bool (decide (b ≤ a)), True)
  | _ => none
def aStr (op : BinOp) (a b : List UInt8) : Option (AV × Prop) :=
  match op with
  | .add => some (.str (a ++ b), a.length + b.length ≤ 9223372036854775807)
  | .eql => some (.bool (decide (a = b)), True)
  | .neq => some (.bool (!decide (a = b)), True)
  | .lss => some (.bool (Op.bytesLess a b), True)
  | .leq => some (.bool (Op.bytesLess a b || decide (a = b)), True)
  | .gtr => some (.bool (!(Op.bytesLess a b || decide (a = b))), True)
  | .geq => some (.bool (!Op.bytesLess a b), True)
  | _ => none
def aBin (op : BinOp) (x y : AV) : Option (AV × Prop) :=
  match x, y with
  | .int k a, .int k' b =>
    match op with
    | .shl => some (arI k (a * 2 ^ b.toNat) (0 ≤ b ∧ b ≤ k.bits))
    | .shr => some (.int k (a / 2 ^ b.toNat), 0 ≤ b ∧ b ≤ k.bits)
    | _ => if k = k' then aInt op k a b else none
  | .str a, .str b => aStr op a b
  | _, _ => none

section
variable {P : Program} {w : World} {S : Nat → Prop} {ρ : Rho}
theorem aInt_ok {op : BinOp} {k : IntKind} {a b : Int} {r : AV} {p : Prop} (h : aInt op k a b = some (r, p)) (hp : p) (hs : op ≠ .shl ∧ op ≠ .shr) (t : TypeId) :
    ∃ q, (binOp op t (.int k a) (.int k b)).run P w = .ok q w ∧ Vl w S ρ r q := by
  have ar : ∀ {n : Int} {p' : Prop}, some (arI k n p') = some (r, p) → p' ∧ Vl w S ρ r (.int k (k.wrap n)) := by
    intro n p' e
    injection e with e
    have e1 : (arI k n p').2 = p := by rw [e]
    have e2 : (arI k n p').1 = r := by rw [e]
    rw [← e2]
    exact arI_ok (by rw [e1]; exact hp)
  cases op <;> simp only [aInt] at h <;> try (cases h; done)
  case add => exact ⟨_, by simp [binOp, Op.intArith], (ar h).2⟩
  case sub => exact ⟨_, by simp [binOp, Op.intArith], (ar h).2⟩
  case mul => exact ⟨_, by simp [binOp, Op.intArith], (ar h).2⟩
  case quo => exact ⟨_, by simp [binOp, Op.intDiv, (ar h).1], (ar h).2⟩
  case rem => injection h with h; injection h with h1 h2; subst h1 h2; exact ⟨_, by simp [binOp, Op.intDiv, hp], Vl.int' _ _⟩
  all_goals (injection h with h; injection h with h1 h2; subst h1 h2)
  case and => exact ⟨_, by simp [binOp, intBits_and], Vl.int' _ _⟩
  case or => exact ⟨_, by simp [binOp, intBits_or], Vl.int' _ _⟩
  case xor => exact ⟨_, by simp [binOp, intBits_xor], Vl.int' _ _⟩
  case andNot => exact ⟨_, by simp [binOp, intBits_andNot], Vl.int' _ _⟩
  case eql =>
    have e1 : (a == b) = decide (a = b) := by rw [Bool.eq_iff_iff]; simp
    exact ⟨.bool (a == b), by simp [binOp, Op.intCmp], by rw [e1]; exact Vl.bool' _⟩
  case neq =>
    have e1 : (a != b) = !decide (a = b) := by rw [Bool.eq_iff_iff]; simp
    exact ⟨.bool (a != b), by simp [binOp, Op.intCmp], by rw [e1]; exact Vl.bool' _⟩
  case lss => exact ⟨_, by simp [binOp, Op.intCmp], Vl.bool' _⟩
  case leq => exact ⟨_, by simp [binOp, Op.intCmp], Vl.bool' _⟩
  case gtr => exact ⟨_, by simp [binOp, Op.intCmp], Vl.bool' _⟩
  case geq => exact ⟨_, by simp [binOp, Op.intCmp], Vl.bool' _⟩

theorem toList_mk (l : List UInt8) : (⟨l.toArray⟩ : ByteArray).toList = l := by rw [ByteArray.toList_eq]
theorem aStr_ok {op : BinOp} {a b : List UInt8} {r : AV} {p : Prop} (h : aStr op a b = some (r, p)) (hp : p) (t : TypeId) :
    ∃ q, (binOp op t (.string ⟨a.toArray⟩) (.string ⟨b.toArray⟩)).run P w = .ok q w ∧ Vl w S ρ r q := by
  have e1 : (decide (a = b)) = (a == b) := by rw [Bool.eq_iff_iff]; simp
  have hb : ∀ op, binOp op t (.string ⟨a.toArray⟩) (.string ⟨b.toArray⟩) = Op.stringOp op ⟨a.toArray⟩ ⟨b.toArray⟩ := fun op => by cases op <;> simp [binOp]
  cases op <;> simp only [aStr] at h <;> try (cases h; done)
  all_goals (injection h with h; injection h with h1 h2; subst h1 h2)
  case add =>
    refine ⟨_, ?_, Vl.str' _⟩
    rw [hb, run_string_add_sum _ _ _ (by simpa [ByteArray.size] using hp), bytes_cat]
  case eql => exact ⟨.bool (a == b), by rw [hb]; simp [Op.stringOp, toList_mk], by rw [← e1]; exact Vl.bool' _⟩
  case neq => exact ⟨.bool (!(a == b)), by rw [hb]; simp [Op.stringOp, toList_mk], by rw [← e1]; exact Vl.bool' _⟩
  case lss => exact ⟨.bool (Op.bytesLess a b), by rw [hb]; simp [Op.stringOp, toList_mk], Vl.bool' _⟩
  case leq => exact ⟨.bool (Op.bytesLess a b || (a == b)), by rw [hb]; simp [Op.stringOp, toList_mk], by rw [← e1]; exact Vl.bool' _⟩
  case gtr => exact ⟨.bool (!(Op.bytesLess a b || (a == b))), by rw [hb]; simp [Op.stringOp, toList_mk], by rw [← e1]; exact Vl.bool' _⟩
  case geq => exact ⟨.bool (!Op.bytesLess a b), by rw [hb]; simp [Op.stringOp, toList_mk], Vl.bool' _⟩
theorem aBin_ok {op : BinOp} {x y r : AV} {p : Prop} {v u : Value} (h : aBin op x y = some (r, p)) (hp : p) (hx : Vl w S ρ x v) (hy : Vl w S ρ y u) (t : TypeId) (X Y : Operand) :
    ∃ q, (do eqGuard op t X Y v u; binOp op t v u).run P w = .ok q w ∧ Vl w S ρ r q := by
  cases x <;> try (simp only [aBin, reduceCtorEq] at h; done)
  case int k a =>
    cases y <;> try (simp only [aBin, reduceCtorEq] at h; done)
    case int k' b =>
      rw [hx.int, hy.int]
      have hg : eqGuard op t X Y (.int k a) (.int k' b) = pure () := by cases op <;> rfl
      rw [hg]
      by_cases h1 : op = .shl
      · subst h1
        simp only [aBin] at h
        injection h with h
        have e1 : (arI k (a * 2 ^ b.toNat) (0 ≤ b ∧ b ≤ k.bits)).2 = p := by rw [h]
        have e2 : (arI k (a * 2 ^ b.toNat) (0 ≤ b ∧ b ≤ k.bits)).1 = r := by rw [h]
        obtain ⟨⟨k1, k2⟩, k3⟩ := arI_ok (w := w) (S := S) (ρ := ρ) (by rw [e1]; exact hp)
        rw [e2] at k3
        exact ⟨_, by simp [binOp, shift_shl k k' a b k1 k2], k3⟩
      · by_cases h2 : op = .shr
        · subst h2
          simp only [aBin] at h
          injection h with h; injection h with e1 e2; subst e1 e2
          exact ⟨_, by simp [binOp, shift_shr k k' a b hp.1 hp.2], Vl.int' _ _⟩
        · have h3 : (if k = k' then aInt op k a b else none) = some (r, p) := by
            cases op <;> first | exact h | exact absurd rfl h1 | exact absurd rfl h2
          split at h3
          · rename_i e; subst e
            obtain ⟨q, hq, hv⟩ := aInt_ok (P := P) (w := w) (S := S) (ρ := ρ) h3 hp ⟨h1, h2⟩ t
            exact ⟨q, by simpa using hq, hv⟩
          · cases h3
  case str a =>
    cases y <;> try (simp only [aBin, reduceCtorEq] at h; done)
    case str b =>
      rw [hx.str, hy.str]
      have hg : eqGuard op t X Y (.string ⟨a.toArray⟩) (.string ⟨b.toArray⟩) = pure () := by cases op <;> rfl
      rw [hg]
      obtain ⟨q, hq, hv⟩ := aStr_ok (P := P) (w := w) (S := S) (ρ := ρ) (op := op) h hp t
      exact ⟨q, by simpa using hq, hv⟩

def aUn (op : UnOp) (x : AV) : Option (AV × Prop) :=
  match op, x with
  | .not, .bool b => some (.bool (!b), True)
  | .neg, .int k n => some (arI k (-n) True)
  | .xor, .int k n => some (.int k (bits .xor k (if k.signed then -1 else k.max) n), True)
  | _, _ => none
theorem aUn_ok {op : UnOp} {x r : AV} {p : Prop} {v : Value} (h : aUn op x = some (r, p)) (hp : p) (hx : Vl w S ρ x v) : ∃ q, (Op.unary op v).run P w = .ok q w ∧ Vl w S ρ r q := by
  unfold aUn at h
  split at h
  · injection h with h; injection h with e1 e2; subst e1 e2; rw [hx.bool]; exact ⟨_, by simp [Op.unary], Vl.bool' _⟩
  · rename_i k n
    injection h with h
    have e1 : (arI k (-n) True).2 = p := by rw [h]
    have e2 : (arI k (-n) True).1 = r := by rw [h]
    have k3 := (arI_ok (w := w) (S := S) (ρ := ρ) (k := k) (n := -n) (p := True) (by rw [e1]; exact hp)).2
    rw [e2] at k3
    rw [hx.int]
    exact ⟨_, by simp [Op.unary, Op.intArith], k3⟩
  · injection h with h; injection h with e1 e2; subst e1 e2; rw [hx.int]; exact ⟨_, by simp [Op.unary, intBits_xor], Vl.int' _ _⟩
  · cases h

def aToInt (k : IntKind) (x : AV) : Option (AV × Prop) :=
  match x with
  | .int _ n => some (arI k n True)
  | _ => none
theorem aToInt_ok {k : IntKind} {x r : AV} {p : Prop} {v : Value} (h : aToInt k x = some (r, p)) (hp : p) (hx : Vl w S ρ x v) {src dst : TypeId} (hs : (P.underlying src).isSome = true) (hd : P.underlying dst = some (.int k)) :
    ∃ q, (convert src dst v).run P w = .ok q w ∧ Vl w S ρ r q := by
  unfold aToInt at h
  split at h
  · rename_i k' n
    injection h with h
    have e1 : (arI k n True).2 = p := by rw [h]
    have e2 : (arI k n True).1 = r := by rw [h]
    have k3 := (arI_ok (w := w) (S := S) (ρ := ρ) (k := k) (n := n) (p := True) (by rw [e1]; exact hp)).2
    rw [e2] at k3
    rw [hx.int]
    obtain ⟨d, hd2⟩ := Option.isSome_iff_exists.1 hs
    exact ⟨_, by simp [convert, run_underlying hd2, run_underlying hd, Conv.intToInt], k3⟩
  · cases h

/-- The bytes of a row of byte values. -/
def toB : AV → UInt8
  | .int _ n => UInt8.ofNat n.toNat
  | _ => 0
def unB (xs : List AV) : List UInt8 := xs.map toB
theorem toB_ub (u : UInt8) : toB (ub u) = u := by unfold toB ub; simp
theorem unB_Bs (l : List UInt8) : unB (Bs l) = l := by
  unfold unB Bs; rw [List.map_map]
  have : (toB ∘ ub) = id := by funext u; exact toB_ub u
  rw [this, List.map_id]
theorem Mem.rd {sz : Nat} {l : List UInt8} {A : Option Addr} {n c : Nat} {us : List Value} (h : Mem w S sz (Bs l) A n c us) : Rd w A l ∧ n = l.length := by
  refine ⟨fun hl => ?_, by rw [h.len, Bs_length]⟩
  have h1 : us = l.map U := by
    have hc := h.css
    have hsz : sz = 1 := by
      cases l with
      | nil => simp at hl
      | cons u l =>
        obtain ⟨u1, u2, _, h2, h3, _⟩ := hc
        rw [← h2]; cases h3; rfl
    subst hsz
    exact css_bytes_eq hc
  obtain ⟨b, o, hA, hc⟩ := h.cell (by rw [h1, List.length_map]; exact hl)
  refine ⟨b, o, hA, fun k hk => ?_⟩
  rw [hc k (by rw [h1, List.length_map]; exact hk), h1, List.getElem?_map, List.getElem?_eq_getElem hk]
  simp [at8_get]
end
end Go.Proofs.Ytbefhofmbiedgaa
