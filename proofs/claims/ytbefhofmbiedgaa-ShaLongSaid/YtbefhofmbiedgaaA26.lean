/- From contracts on abstract values to calls in worlds, and back. Over any program; no condition. -/
import Derived.Test.YtbefhofmbiedgaaA25
import Derived.Test.YtbefhofmbiedgaaArgs
namespace Go.Proofs.Ytbefhofmbiedgaa
set_option linter.all false
open Go.RowKit

section
variable {P : Program} {f : FuncId} {sp : Spec}
theorem heap_nil (w : World) {S : Nat → Prop} (hS : ∀ b, S b → b < w.heap.size) : HeapOk (Lent rho0 []) w S rho0 [] w :=
  ⟨⟨rfl, rfl, rfl, Nat.le_refl _, fun _ _ _ => rfl⟩, fun id o h => by simp at h, fun i j x y _ h => by simp at h, fun id o h => by simp at h, hS, fun _ _ _ => rfl, fun id o h => by simp at h⟩
/-- A function that takes and gives no objects of the caller's own, called from anywhere. -/
theorem FnOk.calls (h : FnOk P f sp) {xs : List AV} {r : Ret} (hs : sp xs [] = some r) (hp : r.pre) {w : World} {args : List Value} (ha : ArgsOk w (fun b => b < w.heap.size) rho0 xs args) :
    Calls P f args.toArray w fun e w' => ∃ v S' ρ', e = .returned v ∧ Vl w' S' ρ' r.v v ∧ Below w.heap.size w w' := by
  refine (h xs [] r hs hp w _ rho0 args (heap_nil w (fun _ h => h)) ha).mono ?_
  rintro e w' ⟨v, S', ρ', rfl, hv, H, hE, _⟩
  exact ⟨v, S', ρ', rfl, hv, H.kept.os, H.kept.tape, H.kept.output, H.kept.size, fun k hk => hE.mem k hk⟩
theorem FnOk.calls_bool (h : FnOk P f sp) {xs : List AV} {r : Ret} {b : Bool} (hs : sp xs [] = some r) (hp : r.pre) (hv : r.v = .bool b) {w : World} {args : List Value} (ha : ArgsOk w (fun b => b < w.heap.size) rho0 xs args) :
    Calls P f args.toArray w fun e w' => e = .returned (.bool b) ∧ Below w.heap.size w w' := by
  refine (h.calls hs hp ha).mono ?_
  rintro e w' ⟨v, S', ρ', rfl, hv', hb⟩
  rw [hv] at hv'
  exact ⟨by rw [hv'.bool], hb⟩
/-- The other way: what a call does in every world, as a contract. -/
theorem fnok_of_calls (h : ∀ as hp r, sp as hp = some r → r.pre → hp = [] ∧ r.hp = [] ∧ ∀ (w : World) (S : Nat → Prop) (ρ : Rho) (args : List Value), (∀ b, S b → b < w.heap.size) → ArgsOk w S ρ as args →
    Calls P f args.toArray w fun e w' => ∃ v, e = .returned v ∧ Below w.heap.size w w' ∧ ∀ (w' : World) (S : Nat → Prop) (ρ : Rho), Vl w' S ρ r.v v) : FnOk P f sp := by
  intro as hp r hs hp' w S ρ args H ha
  obtain ⟨rfl, hr, hc⟩ := h as hp r hs hp'
  refine (hc w S ρ args H.slt ha).mono ?_
  rintro e w' ⟨v, rfl, hb, hv⟩
  obtain ⟨H', hE⟩ := H.same (S' := S) hb (fun _ h => h) (fun _ h => .inl h)
  exact ⟨v, S, ρ, rfl, hv _ _ _, by rw [hr]; exact H', hE, fun b h => .inl h⟩
end
section
variable {w : World} {S : Nat → Prop} {ρ : Rho}
theorem Arg.vl {A : Option Addr} {n c : Nat} {l : List UInt8} (h : Arg w A n c l) : Vl w (fun b => b < w.heap.size) ρ (.sl 1 (Bs l)) (.slice A n c) := by
  have hl : (Bs l).length = l.length := by simp [Bs]
  have hM : Mem w (fun b => b < w.heap.size) 1 (Bs l) A n c (l.map U) := by
    refine ⟨by rw [hl]; exact h.len, css_bytes l, fun h0 => ?_, by rw [h.len]; exact h.cap, h.max⟩
    obtain ⟨b, o, e, hc⟩ := h.rd (by simpa using h0)
    refine ⟨b, o, e, fun j hj => ?_⟩
    have hj' : j < l.length := by simpa using hj
    rw [hc j hj', List.getElem?_map, List.getElem?_eq_getElem hj']
    simp only [Option.map_some, U, at8, List.getD_eq_getElem?_getD, List.getElem?_eq_getElem hj', Option.getD_some]
  exact hM.sl (by omega) (fun b hb => h.blk b hb) (fun _ h => h)
theorem args_nil : ArgsOk w S ρ [] [] := ⟨rfl, fun i hi => by simp at hi⟩
theorem args_cons {x : AV} {v : Value} {as : List AV} {vs : List Value} (h : Vl w S ρ x v) (k : ArgsOk w S ρ as vs) : ArgsOk w S ρ (x :: as) (v :: vs) := by
  refine ⟨by simp [k.1], fun i hi => ?_⟩
  cases i with
  | zero => exact h
  | succ i => exact k.2 i (by simpa using hi)
theorem ArgsOk.get {as : List AV} {vs : List Value} (h : ArgsOk w S ρ as vs) : ∀ (x : AV) (as' : List AV), as = x :: as' → ∃ v vs', vs = v :: vs' ∧ Vl w S ρ x v ∧ ArgsOk w S ρ as' vs' := by
  rintro x as' rfl
  obtain ⟨h1, h2⟩ := h
  cases vs with
  | nil => simp at h1
  | cons v vs => exact ⟨v, vs, rfl, h2 0 (by simp), by simpa using h1, fun i hi => by simpa using h2 (i + 1) (by simpa using hi)⟩
theorem ArgsOk.none {vs : List Value} (h : ArgsOk w S ρ [] vs) : vs = [] := List.eq_nil_of_length_eq_zero (by simpa using h.1)
end
end Go.Proofs.Ytbefhofmbiedgaa
