/- strconv.Itoa and bits.Len64 as contracts. -/
import Derived.Test.YtjdlngbobnknmaaDoorChecked
import Derived.Test.YtjdlngbobnknmaaDoorShelf
import Derived.Test.YtjdlngbobnknmaaDoorDecLaw
import Derived.Sort.Grow
namespace Go.Proofs.YtjdlngbobnknmaaDoor
set_option linter.all false
open Go.RowKit
open Go.Lib (itoa)
open Go.Sort (grow)
theorem tab_of {w : World} {S : Nat → Prop} (h : GlobOk w S) : Lib.TabIs Tryd.prog w "internal/strconv.uint64pow10" .u64 Lib.pow10Tab := by
  obtain ⟨_, us, t, fr, h2, _, h4⟩ := h.1 0 20 (.blob (Lib.pow10Tab.map fun z => .int .u64 z)) (by kernel_rfl)
  have h5 : us = Lib.pow10Tab.map fun z => Value.int .u64 z := by cases h2; rfl
  unfold Lib.TabIs World.var?
  rw [show Tryd.prog.globalNamed "internal/strconv.uint64pow10" = some 0 by kernel_rfl]
  simp only [Option.bind_some, h4, h5]
theorem below_grow (w : World) (k : Nat) (os : Array Obj) : Below w.heap.size w (grow (w.drewN k) os) := by
  have e : ∀ k, (w.drewN k).heap = w.heap ∧ (w.drewN k).os = w.os ∧ (w.drewN k).tape = w.tape ∧ (w.drewN k).output = w.output := by
    intro k
    induction k with
    | zero => exact ⟨rfl, rfl, rfl, rfl⟩
    | succ k ih => simpa [World.drewN] using ih
  obtain ⟨e1, e2, e3, e4⟩ := e k
  refine ⟨by simp [grow, e2], by simp [grow, e3], by simp [grow, e4], by simp [grow, e1], fun j hj => ?_⟩
  simp [grow, e1, Array.getElem?_append_left hj]
def itoaS : Spec := fun xs hp => match xs, hp with
  | [.int .i64 n], [] => some ⟨.str (itoa n), [], inI n⟩
  | _, _ => none
theorem itoa_ok : FnOk Tryd.prog 35 itoaS := by
  refine fnok_of_calls fun xs0 hp r hs hp' => ?_
  unfold itoaS at hs
  split at hs
  · rename_i n
    injection hs with hs; subst hs
    refine ⟨rfl, rfl, fun w S ρ args hS ha => ?_⟩
    obtain ⟨v, vs, rfl, hv, hr⟩ := ha.get _ _ rfl
    obtain rfl := hr.none
    rw [hv.int]
    refine (Tryd.strconv_Itoa n hp'.1 hp'.2 w (tab_of ha.glob)).mono ?_
    rintro e w' ⟨rfl, k, os, rfl⟩
    exact ⟨_, rfl, below_grow w k os, fun _ _ _ => Vl.str' _⟩
  · cases hs
def len64S : Spec := fun xs hp => match xs, hp with
  | [.int .u64 n], [] => some ⟨.int .i64 (Lib.bitLen n.toNat : Int), [], 0 ≤ n ∧ n ≤ 18446744073709551615⟩
  | _, _ => none
theorem len64_ok : FnOk Tryd.prog 56 len64S := by
  refine fnok_of_calls fun xs0 hp r hs hp' => ?_
  unfold len64S at hs
  split at hs
  · rename_i n
    injection hs with hs; subst hs
    refine ⟨rfl, rfl, fun w S ρ args hS ha => ?_⟩
    obtain ⟨v, vs, rfl, hv, hr⟩ := ha.get _ _ rfl
    obtain rfl := hr.none
    rw [hv.int]
    refine (Tryd.bits_Len64 n w hp'.1 hp'.2).mono ?_
    rintro e w' ⟨rfl, rfl⟩
    exact ⟨_, rfl, Below.refl _ _, fun _ _ _ => Vl.int' _ _⟩
  · cases hs
end Go.Proofs.YtjdlngbobnknmaaDoor
