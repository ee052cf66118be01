/- sha.Parse as a contract on abstract values. -/
import Derived.Test.YtehbpibpbfomhaaDoorF02h
import Derived.Test.YtehbpibpbfomhaaDoorShaParse
namespace Go.Proofs.YtehbpibpbfomhaaDoor
set_option linter.all false
open Go.RowKit

def goodQ (l : List UInt8) : Bool := decide (l.length = 40 ∧ ∀ c ∈ l, 0 ≤ dv c)
/-- The bytes that are read, and the error's number. -/
def pOut (l : List UInt8) : List UInt8 := if goodQ l = true then outL l 40 else List.replicate 20 0
def pErr (l : List UInt8) : Int := if goodQ l = true then 0 else 4
def parseS : Spec := fun xs hp => match xs, hp with
  | [.str l], [] => some ⟨.tup [.blob ((pOut l).map U), .int .i64 (pErr l)], [], l.length ≤ 100000⟩
  | _, _ => none
theorem parse_ok : FnOk Tryd.prog 24 parseS := by
  refine fnok_of_calls fun xs0 hp r hs hp' => ?_
  unfold parseS at hs
  split at hs
  · rename_i l
    injection hs with hs; subst hs
    refine ⟨rfl, rfl, fun w S ρ args hS ha => ?_⟩
    obtain ⟨v, vs, rfl, hv, hr⟩ := ha.get _ _ rfl
    obtain rfl := hr.none
    rw [hv.str]
    refine (shaParse l w hp').mono ?_
    rintro e w' ⟨rfl, hb⟩
    refine ⟨_, rfl, hb, fun w' S ρ => ?_⟩
    have hz : (List.replicate 20 (0 : UInt8)).map U = List.replicate 20 (.int .u8 0) := rfl
    unfold pOut pErr
    by_cases hg : l.length = 40 ∧ ∀ c ∈ l, 0 ≤ dv c
    · have hg' : goodQ l = true := decide_eq_true hg
      rw [if_pos hg, if_pos hg', if_pos hg', outC_U]
      exact ⟨[_, _], rfl, rfl, fun i hi => by
        match i, hi with
        | 0, _ => exact blob_U _ _ _ _
        | 1, _ => exact Vl.int' _ _⟩
    · have hg' : ¬ goodQ l = true := by unfold goodQ; simpa using hg
      rw [if_neg hg, if_neg hg', if_neg hg', hz]
      exact ⟨[_, _], rfl, rfl, fun i hi => by
        match i, hi with
        | 0, _ => exact Vl.blob' (List.replicate 20 (.int .u8 0)) (by simp [Value.oneCell'])
        | 1, _ => exact Vl.int' _ _⟩
  · cases hs
end Go.Proofs.YtehbpibpbfomhaaDoor
