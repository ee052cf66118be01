/- Texts with what is told of a copy, plain: printed and parsed. No program in sight. -/
import Derived.Test.YtehbpibpbfomhaaDoorNameLaw
import Derived.Test.YtehbpibpbfomhaaDoorHexLaw2
import Derived.Lib.IndexLaws
import Derived.Lib.IndexBytes
namespace Go.Proofs.YtehbpibpbfomhaaDoor
set_option linter.all false
open Go.Lib (index indexByte cut hasPrefix trimPrefix)
def f1L : List UInt8 := [1, 10, 99, 111, 112, 121, 58, 32]
def f2L : List UInt8 := [10, 99, 111, 112, 121, 114, 101, 118, 58, 32]
def f3L : List UInt8 := [10, 1, 10]
def zid : List UInt8 := List.replicate 20 0
def begL (s : List UInt8) : Bool := hasPrefix s [1, 10]
/-- Print. -/
def prnC (t p id : List UInt8) : Option (List UInt8) :=
  if p = [] ∧ id = zid then (if begL t = true then some ([1, 10, 1, 10] ++ t) else some t)
  else if rightP p = true then some (f1L ++ p ++ f2L ++ hexL id ++ f3L ++ t) else none
/-- A text without some fronts. -/
def cutF (s : List UInt8) : List (List UInt8) → List UInt8 × Bool
  | [] => (s, true)
  | f :: fs => if hasPrefix s f = true then cutF (s.drop f.length) fs else ([], false)
def parN (b : List UInt8) : Option (List UInt8 × List UInt8 × List UInt8) :=
  if (cutF b [[1, 10], [99, 111, 112, 121, 58, 32]]).2 = true ∧ (cut (cutF b [[1, 10], [99, 111, 112, 121, 58, 32]]).1 [10]).2.2 = true ∧ (cutF (cut (cutF b [[1, 10], [99, 111, 112, 121, 58, 32]]).1 [10]).2.1 [[99, 111, 112, 121, 114, 101, 118, 58, 32]]).2 = true ∧
    (cut (cutF (cut (cutF b [[1, 10], [99, 111, 112, 121, 58, 32]]).1 [10]).2.1 [[99, 111, 112, 121, 114, 101, 118, 58, 32]]).1 [10]).2.2 = true ∧
    (cutF (cut (cutF (cut (cutF b [[1, 10], [99, 111, 112, 121, 58, 32]]).1 [10]).2.1 [[99, 111, 112, 121, 114, 101, 118, 58, 32]]).1 [10]).2.1 [[1, 10]]).2 = true ∧
    goodQ (cut (cutF (cut (cutF b [[1, 10], [99, 111, 112, 121, 58, 32]]).1 [10]).2.1 [[99, 111, 112, 121, 114, 101, 118, 58, 32]]).1 [10]).1 = true ∧ rightP (cut (cutF b [[1, 10], [99, 111, 112, 121, 58, 32]]).1 [10]).1 = true
  then some ((cutF (cut (cutF (cut (cutF b [[1, 10], [99, 111, 112, 121, 58, 32]]).1 [10]).2.1 [[99, 111, 112, 121, 114, 101, 118, 58, 32]]).1 [10]).2.1 [[1, 10]]).1,
    (cut (cutF b [[1, 10], [99, 111, 112, 121, 58, 32]]).1 [10]).1, pOut (cut (cutF (cut (cutF b [[1, 10], [99, 111, 112, 121, 58, 32]]).1 [10]).2.1 [[99, 111, 112, 121, 114, 101, 118, 58, 32]]).1 [10]).1)
  else none
def parC (b : List UInt8) : Option (List UInt8 × List UInt8 × List UInt8) :=
  if begL b = true then (if begL (b.drop 2) = true then (if begL (b.drop 4) = true then some (b.drop 4, [], zid) else none) else parN b) else some (b, [], zid)
theorem hasPrefix_iff {s f : List UInt8} : hasPrefix s f = true ↔ ∃ t, s = f ++ t := by
  unfold hasPrefix
  rw [List.isPrefixOf_iff_prefix]
  exact ⟨fun ⟨t, h⟩ => ⟨t, h.symm⟩, fun ⟨t, h⟩ => ⟨t, h.symm⟩⟩
theorem hasPrefix_app (f t : List UInt8) : hasPrefix (f ++ t) f = true := hasPrefix_iff.2 ⟨t, rfl⟩
theorem cutF_one {s f : List UInt8} (h : (cutF s [f]).2 = true) : s = f ++ (cutF s [f]).1 := by
  unfold cutF at h ⊢
  split at h
  · rename_i hp
    obtain ⟨t, rfl⟩ := hasPrefix_iff.1 hp
    rw [if_pos hp, List.drop_left]; rfl
  · cases h
theorem cutF_two {s f g : List UInt8} (h : (cutF s [f, g]).2 = true) : s = f ++ (g ++ (cutF s [f, g]).1) := by
  unfold cutF at h ⊢
  split at h
  · rename_i hp
    obtain ⟨t, rfl⟩ := hasPrefix_iff.1 hp
    rw [if_pos hp]
    rw [List.drop_left] at h ⊢
    rw [← cutF_one h]
  · cases h
theorem cutF_app1 (f t : List UInt8) : cutF (f ++ t) [f] = (t, true) := by
  unfold cutF; rw [if_pos (hasPrefix_app f t), List.drop_left]; rfl
theorem cutF_app2 (f g t : List UInt8) : cutF (f ++ (g ++ t)) [f, g] = (t, true) := by
  unfold cutF; rw [if_pos (hasPrefix_app f _), List.drop_left]; exact cutF_app1 g t
theorem index_nl : ∀ (p x : List UInt8), (∀ c ∈ p, c ≠ 10) → index (p ++ 10 :: x) [10] = p.length
  | [], x, _ => by rw [List.nil_append, index]; simp [List.isPrefixOf]
  | c :: p, x, h => by
    have ih := index_nl p x (fun d hd => h d (List.mem_cons_of_mem _ hd))
    have hc := h c (List.mem_cons_self ..)
    have hp : ([10] : List UInt8).isPrefixOf (c :: (p ++ 10 :: x)) = false := by simp [List.isPrefixOf, Ne.symm hc]
    rw [List.cons_append, index, hp, ih]
    rw [if_neg (by simp), if_neg (by intro e; have := beq_iff_eq.1 e; omega)]
    simp
theorem cut_nl (p x : List UInt8) (h : ∀ c ∈ p, c ≠ 10) : cut (p ++ 10 :: x) [10] = (p, x, true) := by
  unfold cut
  rw [index_nl p x h, if_pos (by omega)]
  simp only [Int.toNat_natCast, List.length_cons, List.length_nil, Nat.zero_add, List.take_left]
  rw [show p.length + 1 = (p ++ [10]).length by simp, show p ++ 10 :: x = (p ++ [10]) ++ x by simp, List.drop_left]
theorem cut_found {s : List UInt8} (h : (cut s [10]).2.2 = true) : s = (cut s [10]).1 ++ 10 :: (cut s [10]).2.1 := by
  unfold cut at h ⊢
  split at h
  · rename_i hi
    rw [if_pos hi]
    obtain ⟨j, hj⟩ : ∃ j : Nat, index s [10] = j := ⟨(index s [10]).toNat, by omega⟩
    rw [hj]
    simp only [Int.toNat_natCast, List.length_cons, List.length_nil, Nat.zero_add]
    rw [Go.Lib.index_one] at hj
    have h1 := (Go.Lib.indexByte_some hj).1
    obtain ⟨h2, h3⟩ := List.getElem?_eq_some_iff.1 h1
    rw [← h3, ← List.drop_eq_getElem_cons h2, List.take_append_drop]
  · cases h
theorem hexL_no10 (id : List UInt8) : ∀ c ∈ hexL id, c ≠ 10 := by
  intro c hc
  rintro rfl
  have := hexL_ok id 10 hc
  unfold dv at this; revert this; decide
/-- What is parsed is what is printed. -/
theorem parN_some {b t p id : List UInt8} : parN b = some (t, p, id) ↔ b = f1L ++ p ++ f2L ++ hexL id ++ f3L ++ t ∧ rightP p = true ∧ id.length = 20 := by
  constructor
  · intro h
    unfold parN at h
    split at h
    · rename_i hc
      obtain ⟨h1, h2, h3, h4, h5, h6, h7⟩ := hc
      simp only [Option.some.injEq, Prod.mk.injEq] at h
      obtain ⟨e1, e2, e3⟩ := h
      have k1 := cutF_two h1
      have k2 := cut_found h2
      have k3 := cutF_one h3
      have k4 := cut_found h4
      have k5 := cutF_one h5
      have k6 := hex_pOut _ h6
      refine ⟨?_, by rw [← e2]; exact h7, by rw [← e3]; exact pOut_len _⟩
      rw [← e1, ← e2, ← e3, k6]
      generalize cutF b [[1, 10], [99, 111, 112, 121, 58, 32]] = A at *
      generalize cut A.1 [10] = C at *
      generalize cutF C.2.1 [[99, 111, 112, 121, 114, 101, 118, 58, 32]] = D at *
      generalize cut D.1 [10] = E at *
      generalize cutF E.2.1 [[1, 10]] = F at *
      rw [k1, k2, k3, k4, k5]
      simp [f1L, f2L, f3L]
    · cases h
  · rintro ⟨rfl, h2, h3⟩
    have hp := (rightP_facts h2).2.1
    have e1 : cutF (f1L ++ p ++ f2L ++ hexL id ++ f3L ++ t) [[1, 10], [99, 111, 112, 121, 58, 32]] = (p ++ 10 :: ([99, 111, 112, 121, 114, 101, 118, 58, 32] ++ (hexL id ++ 10 :: ([1, 10] ++ t))), true) := by
      rw [← cutF_app2]; congr 1; simp [f1L, f2L, f3L]
    have e2 : cut (p ++ 10 :: ([99, 111, 112, 121, 114, 101, 118, 58, 32] ++ (hexL id ++ 10 :: ([1, 10] ++ t)))) [10] = (p, [99, 111, 112, 121, 114, 101, 118, 58, 32] ++ (hexL id ++ 10 :: ([1, 10] ++ t)), true) := cut_nl _ _ fun c hc => (hp c hc).2.1
    have e3 := cutF_app1 [99, 111, 112, 121, 114, 101, 118, 58, 32] (hexL id ++ 10 :: ([1, 10] ++ t))
    have e4 : cut (hexL id ++ 10 :: ([1, 10] ++ t)) [10] = (hexL id, [1, 10] ++ t, true) := cut_nl _ _ (hexL_no10 id)
    have e5 := cutF_app1 [1, 10] t
    have e6 := hex_good id h3
    unfold parN
    rw [e1]; simp only
    rw [e2]; simp only
    rw [e3]; simp only
    rw [e4]; simp only
    rw [e5]; simp only
    rw [if_pos ⟨trivial, trivial, trivial, trivial, trivial, e6, h2⟩, pOut_hex id h3]
end Go.Proofs.YtehbpibpbfomhaaDoor
