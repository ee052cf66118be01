/- sha.Hex as a contract on abstract values. -/
import Derived.Test.YtjdlngbobnknmaaDoorHex
import Derived.Test.YtjdlngbobnknmaaDoorAM3
namespace Go.Proofs.YtjdlngbobnknmaaDoor
set_option linter.all false
open Go.RowKit
theorem blob_U (l : List UInt8) (w : World) (S : Nat → Prop) (ρ : Rho) : Vl w S ρ (.blob (l.map U)) (.agg (l.map U).toArray) :=
  Vl.blob' _ fun u hu => by obtain ⟨x, _, rfl⟩ := List.mem_map.1 hu; rfl
def hexS : Spec := fun xs hp => match xs, hp with
  | [.blob cs], [] => some ⟨.str (hexL (unV cs)), [], cs = (unV cs).map U ∧ cs.length = 20⟩
  | _, _ => none
theorem hex_ok : FnOk Tryd.prog 17 hexS := by
  refine fnok_of_calls fun xs0 hp r hs hp' => ?_
  unfold hexS at hs
  split at hs
  · rename_i cs
    injection hs with hs; subst hs
    obtain ⟨p1, p2⟩ := hp'
    refine ⟨rfl, rfl, fun w S ρ args hS ha => ?_⟩
    obtain ⟨v, vs, rfl, hv, hr⟩ := ha.get _ _ rfl
    obtain rfl := hr.none
    generalize unV cs = l at *
    subst p1
    rw [hv.blob]
    refine (shaHex l (by simpa using p2) w).mono ?_
    rintro e w' ⟨rfl, hb⟩
    exact ⟨_, rfl, hb, fun w' S ρ => Vl.str' _⟩
  · cases hs
end Go.Proofs.YtjdlngbobnknmaaDoor
