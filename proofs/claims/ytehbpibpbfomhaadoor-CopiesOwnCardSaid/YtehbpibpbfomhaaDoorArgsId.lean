/- An argument that is an array of bytes, opened. -/
import Derived.Test.YtehbpibpbfomhaaDoorArgs
import Derived.WideKeyArr2
namespace Go.Proofs.YtehbpibpbfomhaaDoor
set_option linter.all false
open Go.RowKit Go.ChangeShapes Go.WideShapes Go.ChangeAt Go.Deep

section
variable {H : Type} {enc : TypeId × Value → H} {P : Program} {w : World} {base : Nat} {spare : Nat → Bool} {held : Bool}
theorem cells_u8 {e : TypeId} {m c : Nat} {cs : List Value} (he : P.underlying e = some (.int .u8)) : ∀ (L : List Nat) (xs : List (DataW H × List MemPlace)),
    L.mapM (fun i => DataW.trod enc P w base spare held m e ((cs.drop (i * c)).take c)) = some xs → (∀ i ∈ L, ∃ a : Int, (cs.drop (i * c)).take c = [.int .u8 a] ∧ 0 ≤ a ∧ a ≤ 255) ∧ ∀ x ∈ xs, x.2 = []
  | [], xs, h => ⟨fun i hi => by simp at hi, fun x hx => by simp at h; subst h; simp at hx⟩
  | i :: L, xs, h => by
    rw [List.mapM_cons] at h
    simp only [bind, Option.bind_eq_some_iff, pure, Option.some.injEq] at h
    obtain ⟨y, hy, ys, hys, rfl⟩ := h
    obtain ⟨ih1, ih2⟩ := cells_u8 he L ys hys
    obtain ⟨a, ea, rfl, wa⟩ := DataW.trod_int he hy
    have h4 : (Lit.int .u8 a).wf = true := wa
    simp [Lit.wf, IntKind.min, IntKind.max, IntKind.signed, IntKind.bits] at h4
    refine ⟨fun j hj => ?_, fun x hx => ?_⟩
    · rcases List.mem_cons.1 hj with rfl | hj
      · exact ⟨a, ea, h4⟩
      · exact ih1 j hj
    · rcases List.mem_cons.1 hx with rfl | hx
      · rfl
      · exact ih2 x hx

theorem open_id {r : Reach} {b0 n : Nat} {t e : TypeId} {v : Value} {d : DataW H} {ps : List MemPlace} (ht : P.underlying t = some (.array n e)) (he : P.underlying e = some (.int .u8)) (hc : P.cellsOf e = 1) (hn : P.cellsOf t = n)
    (hval : Value.okWide P w r b0 t v) (hd : DataW.Trod enc P w base spare held t v d ps) : ∃ l : List UInt8, v = .agg (l.map U).toArray ∧ l.length = n ∧ ps = [] := by
  simp only [Value.okWide, ht] at hval
  obtain ⟨cs, rfl, h2, _⟩ := hval
  rw [hn] at h2
  obtain ⟨fuel, hf⟩ := hd
  cases fuel with
  | zero => simp [DataW.trod] at hf
  | succ m =>
    rw [DataW.trod_step] at hf
    unfold DataW.trodStep at hf
    simp only [ht, Value.cells] at hf
    rw [if_pos (by rw [hn]; simpa using h2)] at hf
    simp only [Option.map_eq_some_iff] at hf
    obtain ⟨ys, hy, e1⟩ := hf
    rw [hc] at hy
    obtain ⟨h3, h4⟩ := cells_u8 he _ ys hy
    obtain ⟨l, hl, hp⟩ := list_of n (fun i (u : UInt8) => cs[i]? = some (U u)) (fun i hi => by
      obtain ⟨a, ha, h0, h1⟩ := h3 i (by simpa using hi)
      refine ⟨UInt8.ofNat a.toNat, ?_⟩
      have hlt : i < cs.toList.length := by simp; omega
      rw [Nat.mul_one, List.drop_eq_getElem_cons hlt] at ha
      simp at ha
      rw [Array.getElem?_eq_getElem (by omega), ha]
      congr 1
      unfold U
      congr 1
      simp
      omega)
    simp only [Prod.mk.injEq] at e1
    refine ⟨l, ?_, hl, ?_⟩
    · congr 1
      apply Array.ext
      · simp; omega
      · intro i h5 h6
        have := hp i (by omega)
        rw [Array.getElem?_eq_getElem h5, Option.some.injEq] at this
        rw [this]; simp
    · rw [← e1.2]
      simp only [List.flatMap_eq_nil_iff]
      exact fun x hx => h4 x hx
end
end Go.Proofs.YtehbpibpbfomhaaDoor
