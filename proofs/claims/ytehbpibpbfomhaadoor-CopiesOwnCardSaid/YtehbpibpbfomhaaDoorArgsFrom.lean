/- An argument that is a text and a row of twenty bytes, opened. -/
import Derived.Test.YtehbpibpbfomhaaDoorArgsId
import Derived.Test.YtehbpibpbfomhaaDoorAM3
import Derived.ChangeSame
import Derived.ChangeMaps5
import Derived.OpenShut
namespace Go.Proofs.YtehbpibpbfomhaaDoor
set_option linter.all false
open Go.RowKit Go.ChangeShapes Go.WideShapes Go.ChangeAt Go.Deep
section
variable {H : Type} {enc : TypeId × Value → H} {P : Program} {w : World} {base : Nat} {spare : Nat → Bool} {held : Bool}
theorem open_from {r : Reach} {b0 : Nat} {t ta e : TypeId} {f0 f1 : Field} {v : Value} {d : DataW H} {ps : List MemPlace} (ht : P.underlying t = some (.struct #[f0, f1])) (h0o : f0.offset = 0) (h1o : f1.offset = 1) (h1t : f1.type = ta) (hs : P.underlying f0.type = some .string) (hcs : P.cellsOf f0.type = 1)
    (ha : P.underlying ta = some (.array 20 e)) (he : P.underlying e = some (.int .u8)) (hce : P.cellsOf e = 1) (hca : P.cellsOf ta = 20) (hct : P.cellsOf t = 21)
    (hval : Value.okWide P w r b0 t v) (hd : DataW.Trod enc P w base spare held t v d ps) : ∃ s l : List UInt8, v = .agg (.string ⟨s.toArray⟩ :: l.map U).toArray ∧ l.length = 20 ∧ s.length ≤ maxLen := by
  simp only [Value.okWide, ht] at hval
  obtain ⟨cs, rfl, h2, _⟩ := hval
  rw [hct] at h2
  obtain ⟨fuel, hf⟩ := hd
  obtain ⟨y0, y1, n, _, _, k0, k1⟩ := trod_struct2 ht hf
  simp only [Value.cells] at k0 k1
  rw [h0o, hcs] at k0
  rw [h1o, h1t, hca] at k1
  obtain ⟨s, e1, _, hs1⟩ := DataW.trod_string hs k0
  obtain ⟨xs, m, _, _, hl, hn, hel⟩ := DataW.trod_array ha k1
  obtain ⟨l, hlen, hp⟩ := list_of 20 (fun i (u : UInt8) => cs[i + 1]? = some (U u)) (fun i hi => by
    have h5 := hel i hi
    rw [hce] at h5
    obtain ⟨x, hxj⟩ : ∃ x, xs[i]? = some x := ⟨xs[i]'(by omega), List.getElem?_eq_getElem (by omega)⟩
    rw [hxj] at h5
    obtain ⟨a, ea, _, wa⟩ := DataW.trod_int he h5
    have h4 : (Lit.int .u8 a).wf = true := wa
    simp [Lit.wf, IntKind.min, IntKind.max, IntKind.signed, IntKind.bits] at h4
    refine ⟨UInt8.ofNat a.toNat, ?_⟩
    have e4 := congrArg (fun l => l[0]?) ea
    simp only [List.getElem?_take, List.getElem?_drop, List.getElem?_cons_zero] at e4
    simp only [Nat.mul_one, Nat.add_zero] at e4
    rw [if_pos (by omega), if_pos (by omega)] at e4
    have e5 : cs[i + 1]? = some (.int .u8 a) := by
      rw [← Array.getElem?_toList, Nat.add_comm]; exact e4
    rw [e5]
    unfold U
    congr 2
    simp
    omega)
  have h0 : cs[0]? = some (.string s) := by
    have e4 := congrArg (fun l => l[0]?) e1
    simpa using e4
  obtain ⟨⟨s⟩⟩ := s
  refine ⟨s, l, ?_, hlen, by simpa [ByteArray.size] using hs1⟩
  congr 1
  apply Array.ext
  · simp; omega
  · intro i h5 h6
    cases i with
    | zero =>
      rw [Array.getElem?_eq_getElem h5, Option.some.injEq] at h0
      rw [h0]; rfl
    | succ i =>
      have := hp i (by simp at h6; omega)
      rw [Array.getElem?_eq_getElem h5, Option.some.injEq] at this
      rw [this]; simp
theorem vl_from {S : Nat → Prop} {ρ : Rho} (s l : List UInt8) (hl : l.length = 20) : Vl w S ρ (.agg [(1, .str s), (20, .blob (l.map U))]) (.agg (.string ⟨s.toArray⟩ :: l.map U).toArray) := by
  refine Vl.agg' (Css.cs ?_)
  refine ⟨[.string ⟨s.toArray⟩], l.map U, rfl, rfl, .str s, l.map U, [], by simp, by simpa using hl, .blob _ (fun u hu => ?_), rfl⟩
  obtain ⟨x, _, rfl⟩ := List.mem_map.1 hu
  rfl
end
end Go.Proofs.YtehbpibpbfomhaaDoor
