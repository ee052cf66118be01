/- strconv.Atoi as a contract. -/
import Derived.Test.YtaglhfgobkgnaaaDoorFItoa
namespace Go.Proofs.YtaglhfgobkgnaaaDoor
set_option linter.all false
open Go.RowKit
open Go.Lib (itoa atoiAll)
def atoiR (s : List UInt8) : Lib.NumEnd Int → AV
  | .ok v => .tup [.int .i64 v, .con .nilIface]
  | .range => .tup [.int .i64 (Lib.atoiSat s), .iface 57 .top]
  | _ => .tup [.int .i64 0, .iface 57 .top]
def atoiS : Spec := fun xs hp => match xs, hp with
  | [.str s], [] => some ⟨atoiR s (atoiAll s), [], s.length ≤ 281474976710656⟩
  | _, _ => none
theorem tup2 {w : World} {S : Nat → Prop} {ρ : Rho} {x y : AV} {u v : Value} (hx : Vl1 w S ρ x u) (hy : Vl1 w S ρ y v) : Vl w S ρ (.tup [x, y]) (.tuple #[u, v]) :=
  ⟨[u, v], rfl, rfl, fun i hi => by
    match i, hi with
    | 0, _ => exact hx
    | 1, _ => exact hy⟩
theorem ifaceTop {w : World} {S : Nat → Prop} {ρ : Rho} (t : TypeId) (v : Value) (h : v.oneCell' = true) : Vl1 w S ρ (.iface t .top) (.iface t v) :=
  .inr ⟨[.iface t v], .iface t .top [v] (.top _ fun u hu => by simp only [List.mem_singleton] at hu; subst hu; exact h), rfl⟩
theorem err_cell {w : World} {S : Nat → Prop} {g : Nat} {t : TypeId} {l : List UInt8} (h : GlobOk w S) (hg : glob1 g globs = some (1, .iface t (.ptr 1 (.str l) 0 0))) : ∃ ev, w.cell? ⟨g, 0, none⟩ = some ev ∧ ∃ te pe, ev = .iface te pe := by
  obtain ⟨_, us, ty, fr, h2, _, h4⟩ := h _ _ _ hg
  cases h2 with
  | iface _ _ vs _ => exact ⟨_, by rw [cell_of_row w g 0 _ ty fr h4]; rfl, _, _, rfl⟩
theorem atoi_ok : FnOk Tryd.prog 30 atoiS := by
  refine fnok_of_calls fun xs0 hp r hs hp' => ?_
  unfold atoiS at hs
  split at hs
  · rename_i s
    injection hs with hs; subst hs
    refine ⟨rfl, rfl, fun w S ρ args hS ha => ?_⟩
    obtain ⟨v, vs, rfl, hv, hr⟩ := ha.get _ _ rfl
    obtain rfl := hr.none
    rw [hv.str]
    have hsz : (⟨s.toArray⟩ : ByteArray).size = s.length := rfl
    have hl : s.length ≤ 281474976710656 := hp'
    rcases h : atoiAll s with v | _ | _
    · refine (Tryd.strconv_Atoi_ok ⟨s.toArray⟩ (by rw [hsz]; omega) v h w).mono ?_
      rintro e w' ⟨rfl, hw⟩
      refine ⟨_, rfl, ?_, fun _ _ _ => tup2 (.inr ⟨_, .int _ _, rfl⟩) (.inr ⟨_, .con _ rfl, rfl⟩)⟩
      rcases hw with rfl | ⟨t, rfl⟩
      · exact Below.refl _ _
      · exact Lib.bytesWorld_below _ _ _
    · obtain ⟨ev, h1, te, pe, h2⟩ := err_cell ha.glob (g := 0) rfl
      refine (Tryd.strconv_Atoi_form ⟨s.toArray⟩ (by rw [hsz]; omega) (by intro v; show atoiAll s ≠ _; rw [h]; simp) (by show atoiAll s ≠ _; rw [h]; simp) ev w h1 (.inr ⟨te, pe, h2⟩)).mono ?_
      rintro e w' ⟨N, rfl, _, _, hb⟩
      exact ⟨_, rfl, hb, fun _ _ _ => tup2 (.inr ⟨_, .int _ _, rfl⟩) (ifaceTop _ _ rfl)⟩
    · obtain ⟨ev, h1, te, pe, h2⟩ := err_cell ha.glob (g := 1) rfl
      refine (Tryd.strconv_Atoi_range ⟨s.toArray⟩ (by rw [hsz]; omega) h ev w h1 (.inr ⟨te, pe, h2⟩)).mono ?_
      rintro e w' ⟨N, rfl, _, _, hb⟩
      exact ⟨_, rfl, hb, fun _ _ _ => tup2 (.inr ⟨_, .int _ _, rfl⟩) (ifaceTop _ _ rfl)⟩
  · cases hs
end Go.Proofs.YtaglhfgobkgnaaaDoor
