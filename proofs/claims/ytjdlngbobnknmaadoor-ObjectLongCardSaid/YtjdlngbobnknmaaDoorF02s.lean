/- sha.Sum as a contract on abstract values. -/
import Derived.Test.YtjdlngbobnknmaaDoorRSum
import Derived.Test.YtjdlngbobnknmaaDoorShaSum
import Derived.Test.YtjdlngbobnknmaaDoorF02h
namespace Go.Proofs.YtjdlngbobnknmaaDoor
set_option linter.all false
open Go.RowKit

def unSl : AV → List UInt8
  | .sl _ bs => unB bs
  | _ => []
def slB (l : List UInt8) : AV := .sl 1 (Bs l)
theorem css_recs {w : World} {S : Nat → Prop} : ∀ (parts : List (List UInt8)) (us : List Value), Css w S rho0 (prs 1 (parts.map slB)) us → ∃ xs : List BRec, xs.map (·.b) = parts ∧ us = xs.map BRec.cell ∧ ∀ x ∈ xs, Rd w x.A x.b := by
  intro parts
  induction parts with
  | nil => intro us h; exact ⟨[], rfl, h, fun x hx => by simp at hx⟩
  | cons l parts ih =>
    intro us h
    obtain ⟨u1, u2, rfl, h1, h2, h3⟩ := h
    obtain ⟨xs, x1, x2, x3⟩ := ih u2 h3
    obtain ⟨v, rfl⟩ : ∃ v, u1 = [v] := by
      match u1, h1 with
      | [v], _ => exact ⟨v, rfl⟩
    obtain ⟨A, n, c, us', rfl, hM⟩ := Mem.of_sl h2
    obtain ⟨r1, r2⟩ := hM.rd
    subst r2
    exact ⟨⟨A, c, l⟩ :: xs, by simp [x1], by simp [x2, BRec.cell], fun x hx => by
      rcases List.mem_cons.1 hx with rfl | hx
      · exact r1
      · exact x3 x hx⟩
def sumS : Spec := fun xs hp => match xs, hp with
  | [.sl 1 ps], [] => some ⟨.blob ((sha (ps.map unSl).flatten).map U), [], ps = (ps.map unSl).map slB ∧ ps.length ≤ 1099511627776 ∧ (ps.map unSl).flatten.length ≤ 1099511627776⟩
  | _, _ => none
theorem sum_ok : FnOk Tryd.prog 16 sumS := by
  refine fnok_of_calls fun xs0 hp r hs hp' => ?_
  unfold sumS at hs
  split at hs
  · rename_i ps
    injection hs with hs; subst hs
    obtain ⟨p1, p2, p3⟩ := hp'
    refine ⟨rfl, rfl, fun w S ρ args hS ha => ?_⟩
    obtain ⟨v, vs, rfl, hv, hr⟩ := ha.get _ _ rfl
    obtain rfl := hr.none
    generalize ps.map unSl = parts at *
    subst p1
    have hlen : parts.length ≤ 1099511627776 := by simpa using p2
    obtain ⟨A, n, c, us, rfl, hM⟩ := Mem.of_sl hv.sl
    obtain ⟨xs, x1, x2, x3⟩ := css_recs parts us hM.css
    have hxl : xs.length = parts.length := by rw [← x1, List.length_map]
    have hfl : flatR xs = parts.flatten := by unfold flatR; rw [x1]
    have hrd : RdS w A xs := by
      refine ⟨fun h0 => ?_, x3⟩
      obtain ⟨b, o, e, hc⟩ := hM.cell (by rw [x2]; simpa using h0)
      refine ⟨b, o, e, fun j u hj => ?_⟩
      rw [← x2] at hj
      rw [hc j (List.getElem?_eq_some_iff.1 hj).1, hj]
    have hn := hM.len
    rw [List.length_map] at hn
    refine (shaSum A n c xs w (by rw [hn, hxl]) hrd (by omega) (by rw [hfl]; exact p3)).mono ?_
    rintro e w' ⟨rfl, hb⟩
    exact ⟨_, rfl, hb, fun w' S ρ => by rw [hfl]; exact blob_U _ _ _ _⟩
  · cases hs
end Go.Proofs.YtjdlngbobnknmaaDoor
