import Derived.Test.YtlkaaoekbmegkaaDoorQFCom6
import Derived.Test.YtlkaaoekbmegkaaDoorQF02b
import Derived.Test.YtlkaaoekbmegkaaDoorChecked
import Derived.Test.YtlkaaoekbmegkaaDoorQAMS
namespace Go.Proofs.YtlkaaoekbmegkaaDoor
set_option linter.all false
open Go.RowKit
open Go.Lib (index hasPrefix cut indexAny itoa decDigits)
theorem pre_app (w r : List UInt8) : hasPrefix (w ++ r) w = true := by
  show w.isPrefixOf (w ++ r) = true
  rw [List.isPrefixOf_iff_prefix]; exact List.prefix_append w r
theorem pre_iff {s w : List UInt8} : hasPrefix s w = true ↔ ∃ r, s = w ++ r := by
  show w.isPrefixOf s = true ↔ _
  rw [List.isPrefixOf_iff_prefix]
  constructor
  · rintro ⟨r, h⟩; exact ⟨r, h.symm⟩
  · rintro ⟨r, h⟩; exact ⟨r, h.symm⟩
theorem lineG_app {w x r : List UInt8} (h1 : (10 : UInt8) ∉ w) (h2 : (10 : UInt8) ∉ x) : lineG (w ++ (x ++ 10 :: r)) w = some (x, r) := by
  have e : cut (w ++ (x ++ 10 :: r)) [10] = (w ++ x, r, true) := by
    rw [← List.append_assoc]
    exact cut_1 (by rw [List.mem_append]; rintro (h | h); exact h1 h; exact h2 h)
  unfold lineG
  rw [e]
  rw [if_pos ⟨rfl, pre_app w x⟩]
  simp only [List.drop_left]
theorem lineG_inv {s w x r : List UInt8} (h : lineG s w = some (x, r)) : s = w ++ (x ++ 10 :: r) ∧ (10 : UInt8) ∉ x := by
  unfold lineG at h
  split at h
  · rename_i hc
    injection h with h; injection h with h1 h2; subst h1 h2
    obtain ⟨t, ht⟩ := pre_iff.1 hc.2
    have hm := cut_1mem (s := s) (c := 10)
    have hs := cut_t hc.1
    rw [ht] at hm hs ⊢
    rw [List.drop_left]
    exact ⟨by simpa using hs, fun h => hm (List.mem_append_right _ h)⟩
  · cases h
theorem mustG_app {w x r : List UInt8} (b : Bool) (h1 : (10 : UInt8) ∉ w) (h2 : (10 : UInt8) ∉ x) : mustG (w ++ (x ++ 10 :: r)) b w = (x, r, b) := by
  unfold mustG; rw [lineG_app h1 h2]
theorem mustG_inv {s w : List UInt8} {b : Bool} (h : (mustG s b w).2.2 = false) : b = false ∧ s = w ++ ((mustG s b w).1 ++ 10 :: (mustG s b w).2.1) ∧ (10 : UInt8) ∉ (mustG s b w).1 := by
  unfold mustG at h ⊢
  cases hl : lineG s w with
  | none => rw [hl] at h; cases h
  | some p =>
    obtain ⟨x, r⟩ := p
    rw [hl] at h
    exact ⟨h, lineG_inv hl⟩
theorem dv_no10 : ¬ 0 ≤ dv 10 := by unfold dv; decide
theorem hexL_no10 (l : List UInt8) : (10 : UInt8) ∉ hexL l := fun h => dv_no10 (hexL_ok l 10 h)
theorem textW_no10 {w : WhoL} (h : rightW w = true) : (10 : UInt8) ∉ textW w := by
  obtain ⟨h1, h2, h3⟩ := rightW_parts h
  obtain ⟨h4, h5⟩ := rightW_time h
  have hz : (10 : UInt8) ∉ w.zone := by
    intro hm
    unfold zonB at h3
    simp only [Bool.and_eq_true, decide_eq_true_eq, Bool.or_eq_true, List.all_eq_true] at h3
    obtain ⟨⟨g1, g2⟩, g3⟩ := h3
    cases hw : w.zone with
    | nil => rw [hw] at hm; cases hm
    | cons z zs =>
      rw [hw] at hm g2 g3
      rcases List.mem_cons.1 hm with rfl | hm
      · simp at g2
      · have := g3 10 (by simpa using hm)
        exact absurd this (by decide)
  rw [textW_shape, itoa_dec h4]
  simp only [List.mem_append, List.mem_cons, not_or]
  exact ⟨hasL_no h1 (by decide), by decide, by decide, hasL_no h2 (by decide), by decide, by decide, dec_no _ _ (by decide), by decide, hz⟩
theorem parL_shape (p : List UInt8) (r : List UInt8) : parL p ++ r = parW ++ (hexL p ++ 10 :: r) := by simp [parL, parW]
theorem parentsG_app : ∀ (ps : List (List UInt8)) (f : Nat) (r : List UInt8) (acc : List (List UInt8)), ps.length < f → (∀ p ∈ ps, p.length = 20) → hasPrefix r parW = false →
    parentsG f (ps.flatMap parL ++ r) false acc = (r, false, acc ++ ps) := by
  intro ps
  induction ps with
  | nil =>
    intro f r acc hf _ hr
    obtain ⟨f, rfl⟩ : ∃ k, f = k + 1 := ⟨f - 1, by simp only [List.length_nil] at hf; omega⟩
    rw [List.flatMap_nil, List.nil_append, parentsG, if_neg (by rw [hr]; simp), List.append_nil]
  | cons p ps ih =>
    intro f r acc hf hp hr
    obtain ⟨f, rfl⟩ : ∃ k, f = k + 1 := ⟨f - 1, by simp only [List.length_cons] at hf; omega⟩
    simp only [List.length_cons] at hf
    have e : (p :: ps).flatMap parL ++ r = parW ++ (hexL p ++ 10 :: (ps.flatMap parL ++ r)) := by
      rw [List.flatMap_cons, List.append_assoc, parL_shape]
    have hm : mustG (parW ++ (hexL p ++ 10 :: (ps.flatMap parL ++ r))) false parW = (hexL p, ps.flatMap parL ++ r, false) := mustG_app false (by decide) (hexL_no10 p)
    have hl := hp p (List.mem_cons_self ..)
    rw [e, parentsG, if_pos ⟨rfl, pre_app _ _⟩, hm]
    simp only
    rw [hex_good p hl, pOut_hex p hl]
    rw [show (false || !true) = false from rfl, ih f r _ (by omega) (fun q hq => hp q (List.mem_cons_of_mem _ hq)) hr]
    simp
theorem parentsG_inv : ∀ (f : Nat) (s : List UInt8) (b : Bool) (acc : List (List UInt8)), (parentsG f s b acc).2.1 = false →
    b = false ∧ ∃ ps, (parentsG f s b acc).2.2 = acc ++ ps ∧ s = ps.flatMap parL ++ (parentsG f s b acc).1 := by
  intro f
  induction f with
  | zero => intro s b acc h; exact ⟨h, [], by simp [parentsG], by simp [parentsG]⟩
  | succ f ih =>
    intro s b acc h
    by_cases hc : b = false ∧ hasPrefix s parW = true
    · rw [parentsG, if_pos hc] at h ⊢
      obtain ⟨h1, ps, h2, h3⟩ := ih _ _ _ h
      obtain ⟨h4, h5⟩ : (mustG s b parW).2.2 = false ∧ goodQ (mustG s b parW).1 = true := by
        cases g1 : (mustG s b parW).2.2 <;> cases g2 : goodQ (mustG s b parW).1 <;> simp [g1, g2] at h1 ⊢
      obtain ⟨h6, h7, h8⟩ := mustG_inv h4
      refine ⟨h6, pOut (mustG s b parW).1 :: ps, by rw [h2]; simp, ?_⟩
      rw [List.flatMap_cons, List.append_assoc, ← h3, parL_shape, hex_pOut _ h5]
      exact h7
    · rw [parentsG, if_neg hc] at h ⊢
      exact ⟨h, [], by simp, by simp⟩
def sb (v : List UInt8) : List UInt8 := subst1 10 [10, 32] v
theorem exL_shape (x : ExL) (r : List UInt8) : exL x ++ r = x.1 ++ 32 :: (sb x.2 ++ 10 :: r) := by simp [exL, sb]
theorem split10 (v : List UInt8) : (10 : UInt8) ∉ v ∨ ∃ a b, v = a ++ 10 :: b ∧ (10 : UInt8) ∉ a := by
  by_cases h : (10 : UInt8) ∈ v
  · exact .inr (mem_split h)
  · exact .inl h
theorem sb_none {v : List UInt8} (h : (10 : UInt8) ∉ v) : sb v = v := subst1_none h
theorem sb_app {a b : List UInt8} (h : (10 : UInt8) ∉ a) : sb (a ++ 10 :: b) = a ++ 10 :: 32 :: sb b := by
  unfold sb
  rw [subst1_app, subst1_none h, subst1_hit]; rfl
theorem lineG_none {r w : List UInt8} (h : hasPrefix r w = false) : lineG r w = none := by
  cases hl : lineG r w with
  | none => rfl
  | some p =>
    obtain ⟨x, t⟩ := p
    rw [(lineG_inv hl).1, pre_app] at h; cases h
theorem contG_none {f : Nat} {r v : List UInt8} (h : hasPrefix r [32] = false) : contG f r v = (r, v) := by
  cases f with
  | zero => rfl
  | succ f => rw [contG, lineG_none h]
theorem contG_app : ∀ (n : Nat) (v : List UInt8) (f : Nat) (r acc : List UInt8), v.length ≤ n → v.length < f → hasPrefix r [32] = false → contG f (32 :: (sb v ++ 10 :: r)) acc = (r, acc ++ 10 :: v) := by
  intro n
  induction n with
  | zero =>
    intro v f r acc hn hf hr
    obtain rfl : v = [] := List.eq_nil_of_length_eq_zero (by omega)
    obtain ⟨f, rfl⟩ : ∃ k, f = k + 1 := ⟨f - 1, by omega⟩
    have e : lineG ([32] ++ ([] ++ 10 :: r)) [32] = some ([], r) := lineG_app (by decide) (by decide)
    rw [contG, show (32 :: (sb [] ++ 10 :: r)) = [32] ++ ([] ++ 10 :: r) from rfl, e]
    simp only
    rw [contG_none hr]; rfl
  | succ n ih =>
    intro v f r acc hn hf hr
    obtain ⟨f, rfl⟩ : ∃ k, f = k + 1 := ⟨f - 1, by omega⟩
    rcases split10 v with h | ⟨a, b, rfl, ha⟩
    · have e : lineG ([32] ++ (v ++ 10 :: r)) [32] = some (v, r) := lineG_app (by decide) h
      rw [contG, sb_none h, show (32 :: (v ++ 10 :: r)) = [32] ++ (v ++ 10 :: r) from rfl, e]
      simp only
      rw [contG_none hr]; rfl
    · simp only [List.length_append, List.length_cons] at hn hf
      have e : lineG ([32] ++ (a ++ 10 :: (32 :: (sb b ++ 10 :: r)))) [32] = some (a, 32 :: (sb b ++ 10 :: r)) := lineG_app (by decide) ha
      rw [contG, sb_app ha, show (32 :: (a ++ 10 :: 32 :: sb b ++ 10 :: r)) = [32] ++ (a ++ 10 :: (32 :: (sb b ++ 10 :: r))) by simp, e]
      simp only
      rw [ih b f r _ (by omega) (by omega) hr]
      simp
theorem extra1_app {x : ExL} {r : List UInt8} (h : extraB x.1 = true) (hr : hasPrefix r [32] = false) : extra1 (exL x ++ r) = (r, x.2, false, x) := by
  obtain ⟨k, v⟩ := x
  have hk : hasL [32, 10] k = false := by
    unfold extraB at h
    cases g : hasL [32, 10] k
    · rfl
    · rw [g] at h; simp at h
  have k32 : (32 : UInt8) ∉ k := hasL_no hk (by decide)
  have k10 : (10 : UInt8) ∉ k := hasL_no hk (by decide)
  rw [exL_shape]
  simp only
  have no10 : ∀ y : List UInt8, (10 : UInt8) ∉ y → (10 : UInt8) ∉ k ++ 32 :: y := by
    intro y hy
    simp only [List.mem_append, List.mem_cons, not_or]
    exact ⟨k10, by decide, hy⟩
  rcases split10 v with h1 | ⟨a, b, rfl, ha⟩
  · have e : mustG ([] ++ ((k ++ 32 :: v) ++ 10 :: r)) false [] = (k ++ 32 :: v, r, false) := mustG_app false (by decide) (no10 v h1)
    unfold extra1
    rw [sb_none h1, show k ++ 32 :: (v ++ 10 :: r) = [] ++ ((k ++ 32 :: v) ++ 10 :: r) by simp, e]
    simp only
    rw [cut_1 k32]
    simp only
    rw [contG_none hr, h]; rfl
  · have e : mustG ([] ++ ((k ++ 32 :: a) ++ 10 :: (32 :: (sb b ++ 10 :: r)))) false [] = (k ++ 32 :: a, 32 :: (sb b ++ 10 :: r), false) := mustG_app false (by decide) (no10 a ha)
    unfold extra1
    rw [sb_app ha, show k ++ 32 :: (a ++ 10 :: 32 :: sb b ++ 10 :: r) = [] ++ ((k ++ 32 :: a) ++ 10 :: (32 :: (sb b ++ 10 :: r))) by simp, e]
    simp only
    rw [cut_1 k32]
    simp only
    have hsl : b.length ≤ (sb b).length := by
      unfold sb subst1
      clear e h hk k32 k10 no10 hr ha
      induction b with
      | nil => simp
      | cons z b ih =>
        rw [List.flatMap_cons, List.length_append, List.length_cons]
        have : 1 ≤ (if z = 10 then [10, 32] else [z] : List UInt8).length := by split <;> simp
        omega
    rw [contG_app b.length b _ r a (Nat.le_refl _) (by simp only [List.length_append, List.length_cons]; omega) hr, h]; rfl
theorem extraB_head {k r : List UInt8} (h : extraB k = true) : hasPrefix (k ++ 32 :: r) [10] = false ∧ hasPrefix (k ++ 32 :: r) [32] = false := by
  have hk : hasL [32, 10] k = false := by
    unfold extraB at h
    cases g : hasL [32, 10] k
    · rfl
    · rw [g] at h; simp at h
  cases k with
  | nil => exact absurd h (by decide)
  | cons z k =>
    have k32 : (32 : UInt8) ∉ z :: k := hasL_no hk (by decide)
    have k10 : (10 : UInt8) ∉ z :: k := hasL_no hk (by decide)
    constructor
    · rw [Bool.eq_false_iff]; intro hp
      obtain ⟨t, ht⟩ := pre_iff.1 hp
      injection ht with ht _; subst ht
      exact k10 (List.mem_cons_self ..)
    · rw [Bool.eq_false_iff]; intro hp
      obtain ⟨t, ht⟩ := pre_iff.1 hp
      injection ht with ht _; subst ht
      exact k32 (List.mem_cons_self ..)
theorem extrasG_app : ∀ (es : List ExL) (f : Nat) (m : List UInt8) (acc : List ExL), es.length < f → es.any badE = false →
    extrasG f (es.flatMap exL ++ 10 :: m) false acc = (10 :: m, false, acc ++ es) := by
  intro es
  induction es with
  | nil =>
    intro f m acc hf _
    obtain ⟨f, rfl⟩ : ∃ k, f = k + 1 := ⟨f - 1, by simp only [List.length_nil] at hf; omega⟩
    rw [List.flatMap_nil, List.nil_append, extrasG, if_neg (by rw [show (10 :: m) = [10] ++ m from rfl, pre_app]; simp), List.append_nil]
  | cons x es ih =>
    intro f m acc hf hx
    obtain ⟨f, rfl⟩ : ∃ k, f = k + 1 := ⟨f - 1, by simp only [List.length_cons] at hf; omega⟩
    simp only [List.length_cons] at hf
    rw [List.any_cons] at hx
    have hb : extraB x.1 = true := by
      cases g : extraB x.1
      · unfold badE at hx; rw [g] at hx; simp at hx
      · rfl
    have hx2 : es.any badE = false := by
      cases g : es.any badE
      · rfl
      · rw [g] at hx; simp at hx
    have hr : hasPrefix (es.flatMap exL ++ 10 :: m) [32] = false := by
      cases es with
      | nil => rw [Bool.eq_false_iff]; intro hp; obtain ⟨t, ht⟩ := pre_iff.1 hp; injection ht with ht _; exact absurd ht (by decide)
      | cons y es =>
        rw [List.any_cons] at hx2
        have hy : extraB y.1 = true := by
          cases g : extraB y.1
          · unfold badE at hx2; rw [g] at hx2; simp at hx2
          · rfl
        rw [List.flatMap_cons, List.append_assoc, exL_shape]
        exact (extraB_head hy).2
    have h10 : hasPrefix (exL x ++ (es.flatMap exL ++ 10 :: m)) [10] = false := by rw [exL_shape]; exact (extraB_head hb).1
    rw [List.flatMap_cons, List.append_assoc, extrasG, if_pos ⟨rfl, h10⟩, extra1_app hb hr]
    simp only
    rw [ih f m _ (by omega) hx2]
    simp
theorem contG_inv : ∀ (f : Nat) (r v : List UInt8), ∃ y, (contG f r v).2 = v ++ y ∧ 10 :: r = sb y ++ 10 :: (contG f r v).1 := by
  intro f
  induction f with
  | zero => intro r v; exact ⟨[], by simp [contG], rfl⟩
  | succ f ih =>
    intro r v
    rw [contG]
    cases hl : lineG r [32] with
    | none => exact ⟨[], by simp, rfl⟩
    | some p =>
      obtain ⟨m, r1⟩ := p
      obtain ⟨h1, h2⟩ := lineG_inv hl
      obtain ⟨y, h3, h4⟩ := ih r1 (v ++ ([10] ++ m))
      refine ⟨10 :: (m ++ y), by simp only; rw [h3]; simp, ?_⟩
      simp only
      have e : sb (10 :: (m ++ y)) = 10 :: 32 :: (m ++ sb y) := by
        unfold sb; rw [subst1_hit, subst1_app, subst1_none h2]; rfl
      rw [e, h1]
      simp only [List.cons_append, List.append_assoc, List.nil_append] at h4 ⊢
      rw [← h4]
theorem extra1_inv {s : List UInt8} (h : (extra1 s).2.2.1 = false) : extraB (extra1 s).2.2.2.1 = true ∧ s = exL (extra1 s).2.2.2 ++ (extra1 s).1 := by
  unfold extra1 at h ⊢
  simp only at h ⊢
  obtain ⟨⟨h1, h2⟩, h3⟩ : ((mustG s false []).2.2 = false ∧ (cut (mustG s false []).1 [32]).2.2 = true) ∧ extraB (cut (mustG s false []).1 [32]).1 = true := by
    cases g1 : (mustG s false []).2.2 <;> cases g2 : (cut (mustG s false []).1 [32]).2.2 <;> cases g3 : extraB (cut (mustG s false []).1 [32]).1 <;> simp [g1, g2, g3] at h ⊢
  obtain ⟨_, h5, h6⟩ := mustG_inv h1
  have h7 := cut_t h2
  obtain ⟨y, h8, h9⟩ := contG_inv ((mustG s false []).2.1.length + 1) (mustG s false []).2.1 (cut (mustG s false []).1 [32]).2.1
  refine ⟨h3, ?_⟩
  rw [exL_shape]
  simp only
  have hn : (10 : UInt8) ∉ (cut (mustG s false []).1 [32]).2.1 := by
    intro hm; apply h6; rw [h7]
    exact List.mem_append_right _ (List.mem_append_right _ hm)
  rw [h8, show sb ((cut (mustG s false []).1 [32]).2.1 ++ y) = (cut (mustG s false []).1 [32]).2.1 ++ sb y by unfold sb; rw [subst1_app, subst1_none hn], List.append_assoc, ← h9]
  conv => lhs; rw [h5]
  rw [List.nil_append]
  conv => lhs; rw [h7]
  simp
theorem extrasG_inv : ∀ (f : Nat) (s : List UInt8) (b : Bool) (acc : List ExL), (extrasG f s b acc).2.1 = false →
    b = false ∧ ∃ es, (extrasG f s b acc).2.2 = acc ++ es ∧ es.any badE = false ∧ s = es.flatMap exL ++ (extrasG f s b acc).1 := by
  intro f
  induction f with
  | zero => intro s b acc h; exact ⟨h, [], by simp [extrasG], rfl, by simp [extrasG]⟩
  | succ f ih =>
    intro s b acc h
    by_cases hc : b = false ∧ hasPrefix s [10] = false
    · rw [extrasG, if_pos hc] at h ⊢
      obtain ⟨h1, es, h2, h3, h4⟩ := ih _ _ _ h
      obtain ⟨h5, h6⟩ := extra1_inv h1
      refine ⟨hc.1, (extra1 s).2.2.2 :: es, by rw [h2]; simp, by rw [List.any_cons, h3]; unfold badE; rw [h5]; rfl, ?_⟩
      rw [List.flatMap_cons, List.append_assoc, ← h4, ← h6]
    · rw [extrasG, if_neg hc] at h ⊢
      exact ⟨h, [], by simp, rfl, by simp⟩
theorem bodyC_shape (c : ComL) : bodyC c = treW ++ (hexL c.tree ++ 10 :: (c.parents.flatMap parL ++ (autW ++ (textW c.author ++ 10 :: (comW ++ (textW c.committer ++ 10 :: (c.extras.flatMap exL ++ 10 :: c.message))))))) := by
  simp [bodyC, printC, headC, midC, treW, autW, comW]
theorem rightC_parts {c : ComL} (h : rightC c = true) : rightW c.author = true ∧ rightW c.committer = true ∧ c.extras.any badE = false := by
  unfold rightC at h
  cases h1 : rightW c.author <;> cases h2 : rightW c.committer <;> cases h3 : c.extras.any badE <;> simp [h1, h2, h3] at h ⊢
theorem personV_text {w : WhoL} (h : rightW w = true) : personB (textW w) = true ∧ personV (textW w) = w := by
  obtain ⟨h1, h2⟩ := person_text h
  exact ⟨h1, by unfold personV; rw [if_pos h1, h2]⟩
theorem wgt_app {α : Type} (g : α → List UInt8) (hg : ∀ x, 0 < (g x).length) (l : List α) (r : List UInt8) : l.length < wgt (l.flatMap g ++ r) false + 1 := by
  have : l.length ≤ (l.flatMap g).length := by
    induction l with
    | nil => simp
    | cons x l ih => have := hg x; rw [List.flatMap_cons, List.length_append, List.length_cons]; omega
  unfold wgt
  rw [List.length_append]; omega
theorem com_body {c : ComL} (h : rightC c = true) (h20 : c.tree.length = 20) (hp : ∀ p ∈ c.parents, p.length = 20) : parB11 (bodyC c) = true ∧ parC11 (bodyC c) = c := by
  obtain ⟨h1, h2, h3⟩ := rightC_parts h
  obtain ⟨h4, h5⟩ := personV_text h1
  obtain ⟨h6, h7⟩ := personV_text h2
  generalize hs : bodyC c = s
  rw [bodyC_shape] at hs
  obtain ⟨r4, e4⟩ : ∃ r, r = c.extras.flatMap exL ++ 10 :: c.message := ⟨_, rfl⟩
  obtain ⟨r3, e3⟩ : ∃ r, r = comW ++ (textW c.committer ++ 10 :: r4) := ⟨_, rfl⟩
  obtain ⟨r2, e2⟩ : ∃ r, r = autW ++ (textW c.author ++ 10 :: r3) := ⟨_, rfl⟩
  obtain ⟨r1, e1⟩ : ∃ r, r = c.parents.flatMap parL ++ r2 := ⟨_, rfl⟩
  rw [← e4, ← e3, ← e2, ← e1] at hs
  have eM : pM s = (hexL c.tree, r1, false) := by
    unfold pM; rw [← hs]; exact mustG_app false (by decide) (hexL_no10 _)
  have eB0 : pB0 s = false := by unfold pB0; rw [eM, hex_good _ h20]; rfl
  have eP : pP s = (r2, false, c.parents) := by
    unfold pP; rw [eB0, eM]; simp only; rw [e1]
    refine parentsG_app c.parents _ _ [] (wgt_app parL (fun p => by simp [parL]) _ _) hp ?_
    rw [Bool.eq_false_iff]; intro hp
    obtain ⟨t, ht⟩ := pre_iff.1 hp
    rw [e2] at ht
    injection ht with ht _; exact absurd ht (by decide)
  have eA : pA s = (textW c.author, r3, false) := by
    unfold pA; rw [eP]; simp only; rw [e2]; exact mustG_app false (by decide) (textW_no10 h1)
  have eB1 : pB1 s = false := by unfold pB1; rw [eA]; simp only; rw [h4]; rfl
  have eC : pC s = (textW c.committer, r4, false) := by
    unfold pC; rw [eA, eB1]; simp only; rw [e3]; exact mustG_app false (by decide) (textW_no10 h2)
  have eB2 : pB2 s = false := by unfold pB2; rw [eC]; simp only; rw [h6]; rfl
  have eE : pE s = (10 :: c.message, false, c.extras) := by
    unfold pE; rw [eB2, eC]; simp only; rw [e4]
    exact extrasG_app c.extras _ c.message [] (wgt_app exL (fun x => by simp [exL]; omega) _ _) h3
  have eL : pL s = ([], c.message, false) := by
    unfold pL; rw [eE]
    exact mustG_app (w := []) (x := []) false (by decide) (by decide)
  constructor
  · unfold parB11; rw [eL]; rfl
  · unfold parC11
    rw [eM, eP, eA, eC, eE, eL]
    simp only
    rw [h5, h7, pOut_hex _ h20]
theorem parC11_len (s : List UInt8) : (parC11 s).tree.length = 20 ∧ ∀ p ∈ (parC11 s).parents, p.length = 20 := by
  refine ⟨pOut_len _, ?_⟩
  exact parentsG_len (wgt (pM s).2.1 (pB0 s) + 1) (pM s).2.1 (pB0 s) [] ⟨parentsG_len.parentsG_l _ _ _ _, by simp⟩
theorem body_com {s : List UInt8} (h : parB11 s = true) : rightC (parC11 s) = true ∧ bodyC (parC11 s) = s := by
  obtain ⟨l1, l2⟩ : (pL s).2.2 = false ∧ (pL s).1 = [] := by
    unfold parB11 at h
    cases g : (pL s).2.2 <;> simp [g] at h ⊢
    exact h
  obtain ⟨e1, e2, -⟩ := mustG_inv (s := (pE s).1) (b := (pE s).2.1) (w := []) l1
  have e2 : (pE s).1 = [] ++ ((pL s).1 ++ 10 :: (pL s).2.1) := e2
  obtain ⟨b2, es, f1, f2, f3⟩ := extrasG_inv _ _ _ _ e1
  have f1 : (pE s).2.2 = [] ++ es := f1
  have f3 : (pC s).2.1 = es.flatMap exL ++ (pE s).1 := f3
  obtain ⟨c1, c2⟩ : (pC s).2.2 = false ∧ personB (pC s).1 = true := by
    unfold pB2 at b2
    cases g1 : (pC s).2.2 <;> cases g2 : personB (pC s).1 <;> simp [g1, g2] at b2 ⊢
  obtain ⟨b1, c3, -⟩ := mustG_inv (s := (pA s).2.1) (b := pB1 s) (w := comW) c1
  have c3 : (pA s).2.1 = comW ++ ((pC s).1 ++ 10 :: (pC s).2.1) := c3
  obtain ⟨a1, a2⟩ : (pA s).2.2 = false ∧ personB (pA s).1 = true := by
    unfold pB1 at b1
    cases g1 : (pA s).2.2 <;> cases g2 : personB (pA s).1 <;> simp [g1, g2] at b1 ⊢
  obtain ⟨p1, a3, -⟩ := mustG_inv (s := (pP s).1) (b := (pP s).2.1) (w := autW) a1
  have a3 : (pP s).1 = autW ++ ((pA s).1 ++ 10 :: (pA s).2.1) := a3
  obtain ⟨b0, ps, q1, q2⟩ := parentsG_inv _ _ _ _ p1
  have q1 : (pP s).2.2 = [] ++ ps := q1
  have q2 : (pM s).2.1 = ps.flatMap parL ++ (pP s).1 := q2
  obtain ⟨m1, m2⟩ : (pM s).2.2 = false ∧ goodQ (pM s).1 = true := by
    unfold pB0 at b0
    cases g1 : (pM s).2.2 <;> cases g2 : goodQ (pM s).1 <;> simp [g1, g2] at b0 ⊢
  obtain ⟨-, m3, -⟩ := mustG_inv (s := s) (b := false) (w := treW) m1
  have m3 : s = treW ++ ((pM s).1 ++ 10 :: (pM s).2.1) := m3
  obtain ⟨t1, t2⟩ := text_person a2
  obtain ⟨t3, t4⟩ := text_person c2
  have v1 : personV (pA s).1 = personW (pA s).1 := if_pos a2
  have v2 : personV (pC s).1 = personW (pC s).1 := if_pos c2
  constructor
  · unfold rightC parC11
    simp only
    rw [v1, v2, t1, t3, f1, List.nil_append, f2]; rfl
  · rw [bodyC_shape]
    unfold parC11
    simp only
    rw [v1, v2, t2, t4, hex_pOut _ m2, f1, q1, List.nil_append, List.nil_append]
    rw [l2, List.nil_append, List.nil_append] at e2
    conv => rhs; rw [m3, q2, a3, c3, f3, e2]
end Go.Proofs.YtlkaaoekbmegkaaDoor
namespace Go.Proofs.YtlkaaoekbmegkaaDoor
set_option linter.all false
open Go.RowKit
open Go.Lib (index hasPrefix cut indexAny itoa decDigits)
theorem word_kind {k : Int} (h : wordL k ≠ []) : kindN (wordL k) = k := by
  by_cases hk : k < 1 ∨ 4 < k
  · exact absurd (wordL_out hk) h
  · obtain ⟨n, rfl⟩ := Int.eq_ofNat_of_zero_le (show 0 ≤ k by omega)
    exact kindN_at (k := n) (by omega) (by omega) rfl
theorem kind_word {s : List UInt8} (h : kindN s ≠ 0) : wordL (kindN s) = s ∧ wordL (kindN s) ≠ [] := by
  unfold kindN at h ⊢
  split
  · rename_i e; exact ⟨e, by decide⟩
  · split
    · rename_i e; exact ⟨e, by decide⟩
    · split
      · rename_i e; exact ⟨e, by decide⟩
      · split
        · rename_i e; exact ⟨e, by decide⟩
        · rename_i a b c d; rw [if_neg a, if_neg b, if_neg c, if_neg d] at h; exact absurd rfl h
theorem wordL_no10 (k : Int) : (10 : UInt8) ∉ wordL k := by unfold wordL; split <;> decide
theorem bodyT_shape (t : TagL) : bodyT t = objW ++ (hexL t.object ++ 10 :: (typW ++ (wordL t.kind ++ 10 :: (tagW ++ (t.name ++ 10 :: (tgrW ++ (textW t.tagger ++ 10 :: (10 :: t.message)))))))) := by
  simp [bodyT, tagL, objW, typW, tagW, tgrW]
theorem rightT_parts {t : TagL} (h : rightT t = true) : rightW t.tagger = true ∧ wordL t.kind ≠ [] ∧ t.name ≠ [] ∧ (10 : UInt8) ∉ t.name := by
  unfold rightT at h
  simp only [Bool.and_eq_true, Bool.not_eq_true', decide_eq_false_iff_not] at h
  obtain ⟨⟨⟨h1, h2⟩, h3⟩, h4⟩ := h
  refine ⟨h1, h2, h3, fun hm => ?_⟩
  rw [List.contains_iff_mem.2 hm] at h4; cases h4
theorem tag_body {t : TagL} (h : rightT t = true) (h20 : t.object.length = 20) : parBT11 (bodyT t) = true ∧ parT11 (bodyT t) = t := by
  obtain ⟨h1, h2, h3, h4⟩ := rightT_parts h
  obtain ⟨h5, h6⟩ := personV_text h1
  generalize hs : bodyT t = s
  rw [bodyT_shape] at hs
  obtain ⟨r3, e3⟩ : ∃ r, r = tgrW ++ (textW t.tagger ++ 10 :: (10 :: t.message)) := ⟨_, rfl⟩
  obtain ⟨r2, e2⟩ : ∃ r, r = tagW ++ (t.name ++ 10 :: r3) := ⟨_, rfl⟩
  obtain ⟨r1, e1⟩ : ∃ r, r = typW ++ (wordL t.kind ++ 10 :: r2) := ⟨_, rfl⟩
  rw [← e3, ← e2, ← e1] at hs
  have eM : tM s = (hexL t.object, r1, false) := by
    unfold tM; rw [← hs]; exact mustG_app false (by decide) (hexL_no10 _)
  have eB0 : tB0 s = false := by unfold tB0; rw [eM, hex_good _ h20]; rfl
  have eK : tK s = (wordL t.kind, r2, false) := by
    unfold tK; rw [eM, eB0]; simp only; rw [e1]; exact mustG_app false (by decide) (wordL_no10 _)
  have eN : tN s = (t.name, r3, false) := by
    unfold tN; rw [eK]; simp only; rw [e2]; exact mustG_app false (by decide) h4
  have eW : tW s = (textW t.tagger, 10 :: t.message, false) := by
    unfold tW; rw [eN]; simp only; rw [e3]; exact mustG_app false (by decide) (textW_no10 h1)
  have eB1 : tB1 s = false := by unfold tB1; rw [eW]; simp only; rw [h5]; rfl
  have eE : tE s = ([], t.message, false) := by
    unfold tE; rw [eW, eB1]
    exact mustG_app (w := []) (x := []) false (by decide) (by decide)
  have hk : kindN (wordL t.kind) = t.kind := word_kind h2
  have hk0 : decide (t.kind = 0) = false := decide_eq_false (by intro e; rw [e] at h2; exact h2 rfl)
  constructor
  · unfold parBT11; rw [eE, eK, eN]; simp only; rw [hk, hk0, decide_eq_false h3]; rfl
  · unfold parT11
    rw [eM, eK, eN, eW, eE]
    simp only
    rw [h6, pOut_hex _ h20, hk]
theorem parT11_len (s : List UInt8) : (parT11 s).object.length = 20 := pOut_len _
theorem body_tag {s : List UInt8} (h : parBT11 s = true) : rightT (parT11 s) = true ∧ bodyT (parT11 s) = s := by
  unfold parBT11 at h
  simp only [Bool.and_eq_true, Bool.not_eq_true', decide_eq_false_iff_not, decide_eq_true_eq] at h
  obtain ⟨⟨⟨l1, k0⟩, n0⟩, l2⟩ := h
  obtain ⟨e1, e2, -⟩ := mustG_inv (s := (tW s).2.1) (b := tB1 s) (w := []) l1
  have e2 : (tW s).2.1 = [] ++ ((tE s).1 ++ 10 :: (tE s).2.1) := e2
  obtain ⟨c1, c2⟩ : (tW s).2.2 = false ∧ personB (tW s).1 = true := by
    unfold tB1 at e1
    cases g1 : (tW s).2.2 <;> cases g2 : personB (tW s).1 <;> simp [g1, g2] at e1 ⊢
  obtain ⟨b1, c3, -⟩ := mustG_inv (s := (tN s).2.1) (b := (tN s).2.2) (w := tgrW) c1
  have c3 : (tN s).2.1 = tgrW ++ ((tW s).1 ++ 10 :: (tW s).2.1) := c3
  obtain ⟨b2, c4, nn⟩ := mustG_inv (s := (tK s).2.1) (b := (tK s).2.2) (w := tagW) b1
  have c4 : (tK s).2.1 = tagW ++ ((tN s).1 ++ 10 :: (tN s).2.1) := c4
  have nn : (10 : UInt8) ∉ (tN s).1 := nn
  obtain ⟨b3, c5, -⟩ := mustG_inv (s := (tM s).2.1) (b := tB0 s) (w := typW) b2
  have c5 : (tM s).2.1 = typW ++ ((tK s).1 ++ 10 :: (tK s).2.1) := c5
  obtain ⟨m1, m2⟩ : (tM s).2.2 = false ∧ goodQ (tM s).1 = true := by
    unfold tB0 at b3
    cases g1 : (tM s).2.2 <;> cases g2 : goodQ (tM s).1 <;> simp [g1, g2] at b3 ⊢
  obtain ⟨-, m3, -⟩ := mustG_inv (s := s) (b := false) (w := objW) m1
  have m3 : s = objW ++ ((tM s).1 ++ 10 :: (tM s).2.1) := m3
  obtain ⟨t3, t4⟩ := text_person c2
  have v2 : personV (tW s).1 = personW (tW s).1 := if_pos c2
  obtain ⟨k1, k2⟩ := kind_word k0
  constructor
  · unfold rightT parT11
    simp only
    have hc : (tN s).1.contains 10 = false := by
      rw [Bool.eq_false_iff]; intro hm; exact nn (List.contains_iff_mem.1 hm)
    rw [v2, t3, decide_eq_false k2, decide_eq_false n0, hc]; rfl
  · rw [bodyT_shape]
    unfold parT11
    simp only
    rw [v2, t4, hex_pOut _ m2, k1]
    rw [l2, List.nil_append, List.nil_append] at e2
    conv => rhs; rw [m3, c5, c4, c3, e2]
end Go.Proofs.YtlkaaoekbmegkaaDoor
namespace Go.Proofs.YtlkaaoekbmegkaaDoor
set_option linter.all false
open Go.RowKit
open Go.Lib (index hasPrefix cut indexAny itoa decDigits)
theorem flat_par (ps : List (List UInt8)) (h : ∀ p ∈ ps, p.length = 20) : (ps.flatMap parL).length = 48 * ps.length := by
  induction ps with
  | nil => rfl
  | cons p ps ih =>
    have h1 := h p (List.mem_cons_self ..)
    have h2 := hexL_length p
    rw [List.flatMap_cons, List.length_append, ih fun q hq => h q (List.mem_cons_of_mem _ hq)]
    simp only [parL, List.length_append, List.length_cons, List.length_nil]; omega
theorem par_cnt {s : List UInt8} (h : parB11 s = true) : (parC11 s).parents.length ≤ s.length ∧ (parC11 s).extras.length ≤ s.length := by
  obtain ⟨h1, h2⟩ := body_com h
  obtain ⟨h3, h4⟩ := parC11_len s
  have l1 := flat_par _ h4
  have l2 : (parC11 s).extras.length ≤ ((parC11 s).extras.flatMap exL).length := by
    generalize (parC11 s).extras = es
    induction es with
    | nil => simp
    | cons x es ih =>
      rw [List.flatMap_cons, List.length_append, List.length_cons]
      simp only [exL, List.length_append, List.length_cons, List.length_nil] at ih ⊢; omega
  have := congrArg List.length h2
  rw [bodyC_shape] at this
  simp only [List.length_append, List.length_cons] at this
  omega
theorem parR11_t {s : List UInt8} {c : ComL} (h : parB11 s = true) (hv : parC11 s = c) (pr : Prop) : parR11 (parC11 s) (parB11 s) pr =
    some ⟨.tup [.agg (comPs c.tree (.own 0 c.parents.length) c.author c.committer (.own 1 c.extras.length) c.message), .int .i64 0], [.row 30 20 c.parents.length (c.parents.map idAV), .row 54 2 c.extras.length (c.extras.map exV)], pr⟩ := by
  unfold parR11; rw [h, hv]; rfl
theorem parR11_f {s : List UInt8} (h : parB11 s = false) (pr : Prop) : parR11 (parC11 s) (parB11 s) pr = some ⟨.tup [.agg com0, .int .i64 4], [], pr⟩ := by
  unfold parR11; rw [h]; rfl
theorem parRT11_f {s : List UInt8} (h : parBT11 s = false) (pr : Prop) : parRT11 (parT11 s) (parBT11 s) pr = some ⟨.tup [.agg tag0, .int .i64 4], [], pr⟩ := by
  unfold parRT11; rw [h]; rfl
theorem parRT11_t {s : List UInt8} {t : TagL} (h : parBT11 s = true) (hv : parT11 s = t) (pr : Prop) : parRT11 (parT11 s) (parBT11 s) pr = some ⟨.tup [.agg (tagPs t.object t.kind t.name t.tagger t.message), .int .i64 0], [], pr⟩ := by
  unfold parRT11; rw [h, hv]; rfl
theorem par_more {s m : List UInt8} (h : parB11 s = true) : parB11 (s ++ m) = true ∧ parC11 (s ++ m) = ⟨(parC11 s).tree, (parC11 s).parents, (parC11 s).author, (parC11 s).committer, (parC11 s).extras, (parC11 s).message ++ m⟩ := by
  obtain ⟨h1, h2⟩ := body_com h
  obtain ⟨h3, h4⟩ := parC11_len s
  generalize parC11 s = c at *
  have e : bodyC ⟨c.tree, c.parents, c.author, c.committer, c.extras, c.message ++ m⟩ = s ++ m := by
    rw [← h2, bodyC_shape, bodyC_shape]; simp
  have := com_body (c := ⟨c.tree, c.parents, c.author, c.committer, c.extras, c.message ++ m⟩) h1 h3 h4
  rwa [e] at this
theorem par_short {s : List UInt8} (h : s.length ≤ 45) : parB11 s = false := by
  cases hb : parB11 s with
  | false => rfl
  | true =>
    obtain ⟨h1, h2⟩ := body_com hb
    obtain ⟨h3, h4⟩ := parC11_len s
    have := congrArg List.length h2
    have hh := hexL_length (parC11 s).tree
    rw [bodyC_shape] at this
    simp only [List.length_append, List.length_cons, treW, List.length_nil] at this
    omega
theorem part_more {s m : List UInt8} (h : parBT11 s = true) : parBT11 (s ++ m) = true ∧ parT11 (s ++ m) = ⟨(parT11 s).object, (parT11 s).kind, (parT11 s).name, (parT11 s).tagger, (parT11 s).message ++ m⟩ := by
  obtain ⟨h1, h2⟩ := body_tag h
  have h3 := parT11_len s
  generalize parT11 s = c at *
  have e : bodyT ⟨c.object, c.kind, c.name, c.tagger, c.message ++ m⟩ = s ++ m := by
    rw [← h2, bodyT_shape, bodyT_shape]; simp
  have := tag_body (t := ⟨c.object, c.kind, c.name, c.tagger, c.message ++ m⟩) h1 h3
  rwa [e] at this
end Go.Proofs.YtlkaaoekbmegkaaDoor
namespace Go.Proofs.YtlkaaoekbmegkaaDoor
set_option linter.all false
open Go.RowKit
def b_lto_0 : ACode := (.seq (.seq (.reg none [⟨(some 23), (.mv (.t 4)), none⟩, ⟨(some 24), (.fa 20 (.t 1)), none⟩, ⟨(some 25), (.ld (.one (.con (.slice none 0 0))) (.t 24)), none⟩, ⟨(some 26), (.len none false (.t 25)), none⟩, ⟨(some 27), (.bin .lss (.t 23) (.t 26)), none⟩, ⟨(some 28), (.mv (.t 27)), none⟩, ⟨(some 29), (.mv (.t 4)), (some (28, true))⟩, ⟨(some 30), (.bin .lss (.t 29) (.c (.int .i64 20))), (some (28, true))⟩, ⟨(some 31), (.pick (.t 28) (.t 30) (.c (.bool false))), none⟩]) (.cond (.t 31) .skip (.exit 0))) (.seq (.block 1 (.reg (some [(0, false), (1, false), (2, false), (3, false), (4, false), (5, false), (6, false), (7, false), (8, true), (9, true), (10, true)]) [⟨(some 34), (.fa 20 (.t 3)), none⟩, ⟨(some 35), (.ld (.one (.con (.slice none 0 0))) (.t 34)), none⟩, ⟨(some 36), (.fa 20 (.t 1)), none⟩, ⟨(some 37), (.ld (.one (.con (.slice none 0 0))) (.t 36)), none⟩, ⟨(some 38), (.mv (.t 4)), none⟩, ⟨(some 39), (.ia 20 (.blob (List.replicate 20 (.int .u8 0))) (.t 37) (.t 38)), none⟩, ⟨(some 40), (.ld (.arr 20) (.t 39)), none⟩, ⟨(some 41), (.buildSl 30 20 [(.t 40)]), none⟩, ⟨(some 42), (.app 30 20 20 (.t 35) (.t 41)), none⟩, ⟨(some 43), (.fa 20 (.t 3)), none⟩, ⟨none, (.st (.one (.con (.slice none 0 0))) (.t 43) (.t 42)), none⟩])) (.reg none [⟨(some 32), (.mv (.t 4)), none⟩, ⟨(some 33), (.bin .add (.t 32) (.c (.int .i64 1))), none⟩, ⟨(some 4), (.mv (.t 33)), none⟩])))
def b_lto_1 : ACode := (.seq (.seq (.reg none [⟨(some 44), (.mv (.t 5)), none⟩, ⟨(some 45), (.fa 29 (.t 1)), none⟩, ⟨(some 46), (.ld (.one (.con (.slice none 0 0))) (.t 45)), none⟩, ⟨(some 47), (.len none false (.t 46)), none⟩, ⟨(some 48), (.bin .lss (.t 44) (.t 47)), none⟩, ⟨(some 49), (.mv (.t 48)), none⟩, ⟨(some 50), (.mv (.t 5)), (some (49, true))⟩, ⟨(some 51), (.bin .lss (.t 50) (.c (.int .i64 20))), (some (49, true))⟩, ⟨(some 52), (.pick (.t 49) (.t 51) (.c (.bool false))), none⟩]) (.cond (.t 52) .skip (.exit 2))) (.seq (.block 3 (.seq (.reg none [⟨(some 55), (.fa 29 (.t 1)), none⟩, ⟨(some 56), (.ld (.one (.con (.slice none 0 0))) (.t 55)), none⟩, ⟨(some 57), (.mv (.t 5)), none⟩, ⟨(some 58), (.ia 2 (.agg [(1, (.str [])), (1, (.str []))]) (.t 56) (.t 57)), none⟩, ⟨(some 59), (.ld (.st 2) (.t 58)), none⟩, ⟨(some 6), (.new 53 [(1, (.str [])), (1, (.str []))]), none⟩, ⟨none, (.st (.st 2) (.t 6) (.t 59)), none⟩]) (.reg (some [(0, false), (1, false), (2, false), (3, false), (4, false), (5, false), (6, false), (7, false), (8, false), (9, false), (10, false), (11, false), (12, false), (13, false), (14, false), (15, false), (16, false), (17, false), (18, true), (19, true), (20, true)]) [⟨(some 60), (.fa 29 (.t 3)), none⟩, ⟨(some 61), (.ld (.one (.con (.slice none 0 0))) (.t 60)), none⟩, ⟨(some 62), (.fa 0 (.t 6)), none⟩, ⟨(some 63), (.ld (.one (.str [])) (.t 62)), none⟩, ⟨(some 64), (.fa 0 (.t 6)), none⟩, ⟨(some 65), (.ld (.one (.str [])) (.t 64)), none⟩, ⟨(some 66), (.len none true (.t 65)), none⟩, ⟨(some 67), (.mm false (.t 66) (.c (.int .i64 200))), none⟩, ⟨(some 68), (.slS (.t 63) none (some (.t 67))), none⟩, ⟨(some 69), (.fa 1 (.t 6)), none⟩, ⟨(some 70), (.ld (.one (.str [])) (.t 69)), none⟩, ⟨(some 71), (.fa 1 (.t 6)), none⟩, ⟨(some 72), (.ld (.one (.str [])) (.t 71)), none⟩, ⟨(some 73), (.len none true (.t 72)), none⟩, ⟨(some 74), (.mm false (.t 73) (.c (.int .i64 200))), none⟩, ⟨(some 75), (.slS (.t 70) none (some (.t 74))), none⟩, ⟨(some 76), (.build [(1, (.str [])), (1, (.str []))] [(0, (1, (.t 68))), (1, (1, (.t 75)))]), none⟩, ⟨(some 77), (.buildSl 54 2 [(.t 76)]), none⟩, ⟨(some 78), (.app 54 2 32 (.t 61) (.t 77)), none⟩, ⟨(some 79), (.fa 29 (.t 3)), none⟩, ⟨none, (.st (.one (.con (.slice none 0 0))) (.t 79) (.t 78)), none⟩]))) (.reg none [⟨(some 53), (.mv (.t 5)), none⟩, ⟨(some 54), (.bin .add (.t 53) (.c (.int .i64 1))), none⟩, ⟨(some 5), (.mv (.t 54)), none⟩])))
def t_lto_0 : ACode := (.seq (.reg none [⟨(some 80), (.ld (.st 31) (.t 3)), none⟩, ⟨none, (.st (.st 31) (.t 2) (.t 80)), none⟩]) .ret)
def t_lto_1 : ACode := (.seq (.seq (.reg none [⟨(some 5), (.mv (.c (.int .i64 0))), none⟩]) (.block 2 (.loop b_lto_1))) t_lto_0)
def c_lto : ACode := (.seq (.reg none [⟨(some 1), (.box 28 31 (.t 0)), none⟩, ⟨(some 2), (.new 35 [(20, (.blob (List.replicate 20 (.int .u8 0)))), (1, (.con (.slice none 0 0))), (1, (.str [])), (1, (.str [])), (1, (.int .i64 0)), (1, (.str [])), (1, (.str [])), (1, (.str [])), (1, (.int .i64 0)), (1, (.str [])), (1, (.con (.slice none 0 0))), (1, (.str []))]), none⟩]) (.seq (.reg (some [(0, false), (1, false), (2, false), (3, false), (4, false), (5, false), (6, false), (7, false), (8, false), (9, false), (10, false), (11, false), (12, false), (13, false), (14, false), (15, false), (16, false), (17, true)]) [⟨(some 7), (.fa 0 (.t 1)), none⟩, ⟨(some 8), (.ld (.arr 20) (.t 7)), none⟩, ⟨(some 9), (.fa 21 (.t 1)), none⟩, ⟨(some 10), (.ld (.st 4) (.t 9)), none⟩, ⟨(some 11), (.callP 12 [(.t 10)]), none⟩, ⟨(some 12), (.fa 25 (.t 1)), none⟩, ⟨(some 13), (.ld (.st 4) (.t 12)), none⟩, ⟨(some 14), (.callP 12 [(.t 13)]), none⟩, ⟨(some 15), (.fa 30 (.t 1)), none⟩, ⟨(some 16), (.ld (.one (.str [])) (.t 15)), none⟩, ⟨(some 17), (.fa 30 (.t 1)), none⟩, ⟨(some 18), (.ld (.one (.str [])) (.t 17)), none⟩, ⟨(some 19), (.len none true (.t 18)), none⟩, ⟨(some 20), (.mm false (.t 19) (.c (.int .i64 500))), none⟩, ⟨(some 21), (.slS (.t 16) none (some (.t 20))), none⟩, ⟨(some 22), (.build [(20, (.blob (List.replicate 20 (.int .u8 0)))), (1, (.con (.slice none 0 0))), (1, (.str [])), (1, (.str [])), (1, (.int .i64 0)), (1, (.str [])), (1, (.str [])), (1, (.str [])), (1, (.int .i64 0)), (1, (.str [])), (1, (.con (.slice none 0 0))), (1, (.str []))] [(0, (20, (.t 8))), (21, (4, (.t 11))), (25, (4, (.t 14))), (30, (1, (.t 21)))]), none⟩, ⟨(some 3), (.new 35 [(20, (.blob (List.replicate 20 (.int .u8 0)))), (1, (.con (.slice none 0 0))), (1, (.str [])), (1, (.str [])), (1, (.int .i64 0)), (1, (.str [])), (1, (.str [])), (1, (.str [])), (1, (.int .i64 0)), (1, (.str [])), (1, (.con (.slice none 0 0))), (1, (.str []))]), none⟩, ⟨none, (.st (.st 31) (.t 3) (.t 22)), none⟩]) (.seq (.seq (.reg none [⟨(some 4), (.mv (.c (.int .i64 0))), none⟩]) (.block 0 (.loop b_lto_0))) t_lto_1)))
def r_lto : List ARes := [(.c 2 (.st 31))]
theorem s_lto : slimF Tryd.prog Tryd.f5 = some (c_lto, r_lto) := by kernel_rfl
def b_lof_0 : ACode := (.seq (.seq (.reg none [⟨(some 17), (.mv (.t 4)), none⟩, ⟨(some 18), (.fa 20 (.t 1)), none⟩, ⟨(some 19), (.ld (.one (.con (.slice none 0 0))) (.t 18)), none⟩, ⟨(some 20), (.len none false (.t 19)), none⟩, ⟨(some 21), (.bin .lss (.t 17) (.t 20)), none⟩]) (.cond (.t 21) .skip (.exit 0))) (.seq (.block 1 (.reg (some [(0, false), (1, false), (2, false), (3, false), (4, false), (5, false), (6, false), (7, false), (8, true), (9, true), (10, true)]) [⟨(some 24), (.fa 20 (.t 3)), none⟩, ⟨(some 25), (.ld (.one (.con (.slice none 0 0))) (.t 24)), none⟩, ⟨(some 26), (.fa 20 (.t 1)), none⟩, ⟨(some 27), (.ld (.one (.con (.slice none 0 0))) (.t 26)), none⟩, ⟨(some 28), (.mv (.t 4)), none⟩, ⟨(some 29), (.ia 20 (.blob (List.replicate 20 (.int .u8 0))) (.t 27) (.t 28)), none⟩, ⟨(some 30), (.ld (.arr 20) (.t 29)), none⟩, ⟨(some 31), (.buildSl 22 20 [(.t 30)]), none⟩, ⟨(some 32), (.app 22 20 20 (.t 25) (.t 31)), none⟩, ⟨(some 33), (.fa 20 (.t 3)), none⟩, ⟨none, (.st (.one (.con (.slice none 0 0))) (.t 33) (.t 32)), none⟩])) (.reg none [⟨(some 22), (.mv (.t 4)), none⟩, ⟨(some 23), (.bin .add (.t 22) (.c (.int .i64 1))), none⟩, ⟨(some 4), (.mv (.t 23)), none⟩])))
def b_lof_1 : ACode := (.seq (.seq (.reg none [⟨(some 34), (.mv (.t 5)), none⟩, ⟨(some 35), (.fa 29 (.t 1)), none⟩, ⟨(some 36), (.ld (.one (.con (.slice none 0 0))) (.t 35)), none⟩, ⟨(some 37), (.len none false (.t 36)), none⟩, ⟨(some 38), (.bin .lss (.t 34) (.t 37)), none⟩]) (.cond (.t 38) .skip (.exit 2))) (.seq (.block 3 (.reg (some [(0, false), (1, false), (2, false), (3, false), (4, false), (5, false), (6, false), (7, false), (8, false), (9, false), (10, false), (11, false), (12, false), (13, false), (14, false), (15, false), (16, true), (17, true), (18, true)]) [⟨(some 41), (.fa 29 (.t 3)), none⟩, ⟨(some 42), (.ld (.one (.con (.slice none 0 0))) (.t 41)), none⟩, ⟨(some 43), (.fa 29 (.t 1)), none⟩, ⟨(some 44), (.ld (.one (.con (.slice none 0 0))) (.t 43)), none⟩, ⟨(some 45), (.mv (.t 5)), none⟩, ⟨(some 46), (.ia 2 (.agg [(1, (.str [])), (1, (.str []))]) (.t 44) (.t 45)), none⟩, ⟨(some 47), (.fa 0 (.t 46)), none⟩, ⟨(some 48), (.ld (.one (.str [])) (.t 47)), none⟩, ⟨(some 49), (.fa 29 (.t 1)), none⟩, ⟨(some 50), (.ld (.one (.con (.slice none 0 0))) (.t 49)), none⟩, ⟨(some 51), (.mv (.t 5)), none⟩, ⟨(some 52), (.ia 2 (.agg [(1, (.str [])), (1, (.str []))]) (.t 50) (.t 51)), none⟩, ⟨(some 53), (.fa 1 (.t 52)), none⟩, ⟨(some 54), (.ld (.one (.str [])) (.t 53)), none⟩, ⟨(some 55), (.build [(1, (.str [])), (1, (.str []))] [(0, (1, (.t 48))), (1, (1, (.t 54)))]), none⟩, ⟨(some 56), (.buildSl 53 2 [(.t 55)]), none⟩, ⟨(some 57), (.app 53 2 32 (.t 42) (.t 56)), none⟩, ⟨(some 58), (.fa 29 (.t 3)), none⟩, ⟨none, (.st (.one (.con (.slice none 0 0))) (.t 58) (.t 57)), none⟩])) (.reg none [⟨(some 39), (.mv (.t 5)), none⟩, ⟨(some 40), (.bin .add (.t 39) (.c (.int .i64 1))), none⟩, ⟨(some 5), (.mv (.t 40)), none⟩])))
def t_lof_0 : ACode := (.seq (.reg none [⟨(some 59), (.ld (.st 31) (.t 3)), none⟩, ⟨none, (.st (.st 31) (.t 2) (.t 59)), none⟩]) .ret)
def t_lof_1 : ACode := (.seq (.seq (.reg none [⟨(some 5), (.mv (.c (.int .i64 0))), none⟩]) (.block 2 (.loop b_lof_1))) t_lof_0)
def c_lof : ACode := (.seq (.reg none [⟨(some 1), (.box 35 31 (.t 0)), none⟩, ⟨(some 2), (.new 28 [(20, (.blob (List.replicate 20 (.int .u8 0)))), (1, (.con (.slice none 0 0))), (1, (.str [])), (1, (.str [])), (1, (.int .i64 0)), (1, (.str [])), (1, (.str [])), (1, (.str [])), (1, (.int .i64 0)), (1, (.str [])), (1, (.con (.slice none 0 0))), (1, (.str []))]), none⟩]) (.seq (.reg (some [(0, false), (1, false), (2, false), (3, false), (4, false), (5, false), (6, false), (7, false), (8, false), (9, false), (10, false), (11, false), (12, true)]) [⟨(some 6), (.fa 0 (.t 1)), none⟩, ⟨(some 7), (.ld (.arr 20) (.t 6)), none⟩, ⟨(some 8), (.fa 21 (.t 1)), none⟩, ⟨(some 9), (.ld (.st 4) (.t 8)), none⟩, ⟨(some 10), (.callP 26 [(.t 9)]), none⟩, ⟨(some 11), (.fa 25 (.t 1)), none⟩, ⟨(some 12), (.ld (.st 4) (.t 11)), none⟩, ⟨(some 13), (.callP 26 [(.t 12)]), none⟩, ⟨(some 14), (.fa 30 (.t 1)), none⟩, ⟨(some 15), (.ld (.one (.str [])) (.t 14)), none⟩, ⟨(some 16), (.build [(20, (.blob (List.replicate 20 (.int .u8 0)))), (1, (.con (.slice none 0 0))), (1, (.str [])), (1, (.str [])), (1, (.int .i64 0)), (1, (.str [])), (1, (.str [])), (1, (.str [])), (1, (.int .i64 0)), (1, (.str [])), (1, (.con (.slice none 0 0))), (1, (.str []))] [(0, (20, (.t 7))), (21, (4, (.t 10))), (25, (4, (.t 13))), (30, (1, (.t 15)))]), none⟩, ⟨(some 3), (.new 28 [(20, (.blob (List.replicate 20 (.int .u8 0)))), (1, (.con (.slice none 0 0))), (1, (.str [])), (1, (.str [])), (1, (.int .i64 0)), (1, (.str [])), (1, (.str [])), (1, (.str [])), (1, (.int .i64 0)), (1, (.str [])), (1, (.con (.slice none 0 0))), (1, (.str []))]), none⟩, ⟨none, (.st (.st 31) (.t 3) (.t 16)), none⟩]) (.seq (.seq (.reg none [⟨(some 4), (.mv (.c (.int .i64 0))), none⟩]) (.block 0 (.loop b_lof_0))) t_lof_1)))
def r_lof : List ARes := [(.c 2 (.st 31))]
theorem s_lof : slimF Tryd.prog Tryd.f9 = some (c_lof, r_lof) := by kernel_rfl
def c_lwho : ACode := (.seq (.reg none [⟨(some 1), (.box 25 4 (.t 0)), none⟩, ⟨(some 2), (.new 32 [(1, (.str [])), (1, (.str [])), (1, (.int .i64 0)), (1, (.str []))]), none⟩]) (.seq (.reg (some [(0, false), (1, false), (2, false), (3, false), (4, false), (5, false), (6, false), (7, false), (8, false), (9, false), (10, false), (11, false), (12, false), (13, false), (14, false), (15, false), (16, false), (17, false), (18, false), (19, false), (20, false), (21, false), (22, false), (23, true), (24, true)]) [⟨(some 3), (.fa 0 (.t 1)), none⟩, ⟨(some 4), (.ld (.one (.str [])) (.t 3)), none⟩, ⟨(some 5), (.fa 0 (.t 1)), none⟩, ⟨(some 6), (.ld (.one (.str [])) (.t 5)), none⟩, ⟨(some 7), (.len none true (.t 6)), none⟩, ⟨(some 8), (.mm false (.t 7) (.c (.int .i64 200))), none⟩, ⟨(some 9), (.slS (.t 4) none (some (.t 8))), none⟩, ⟨(some 10), (.fa 1 (.t 1)), none⟩, ⟨(some 11), (.ld (.one (.str [])) (.t 10)), none⟩, ⟨(some 12), (.fa 1 (.t 1)), none⟩, ⟨(some 13), (.ld (.one (.str [])) (.t 12)), none⟩, ⟨(some 14), (.len none true (.t 13)), none⟩, ⟨(some 15), (.mm false (.t 14) (.c (.int .i64 200))), none⟩, ⟨(some 16), (.slS (.t 11) none (some (.t 15))), none⟩, ⟨(some 17), (.fa 2 (.t 1)), none⟩, ⟨(some 18), (.ld (.one (.int .i64 0)) (.t 17)), none⟩, ⟨(some 19), (.fa 3 (.t 1)), none⟩, ⟨(some 20), (.ld (.one (.str [])) (.t 19)), none⟩, ⟨(some 21), (.fa 3 (.t 1)), none⟩, ⟨(some 22), (.ld (.one (.str [])) (.t 21)), none⟩, ⟨(some 23), (.len none true (.t 22)), none⟩, ⟨(some 24), (.mm false (.t 23) (.c (.int .i64 200))), none⟩, ⟨(some 25), (.slS (.t 20) none (some (.t 24))), none⟩, ⟨(some 26), (.build [(1, (.str [])), (1, (.str [])), (1, (.int .i64 0)), (1, (.str []))] [(0, (1, (.t 9))), (1, (1, (.t 16))), (2, (1, (.t 18))), (3, (1, (.t 25)))]), none⟩, ⟨none, (.st (.st 4) (.t 2) (.t 26)), none⟩]) .ret))
def r_lwho : List ARes := [(.c 2 (.st 4))]
theorem s_lwho : slimF Tryd.prog Tryd.f12 = some (c_lwho, r_lwho) := by kernel_rfl
def c_lwhoOf : ACode := (.seq (.reg none [⟨(some 1), (.box 32 4 (.t 0)), none⟩, ⟨(some 2), (.new 25 [(1, (.str [])), (1, (.str [])), (1, (.int .i64 0)), (1, (.str []))]), none⟩]) (.seq (.reg none [⟨(some 3), (.fa 0 (.t 1)), none⟩, ⟨(some 4), (.ld (.one (.str [])) (.t 3)), none⟩, ⟨(some 5), (.fa 1 (.t 1)), none⟩, ⟨(some 6), (.ld (.one (.str [])) (.t 5)), none⟩, ⟨(some 7), (.fa 2 (.t 1)), none⟩, ⟨(some 8), (.ld (.one (.int .i64 0)) (.t 7)), none⟩, ⟨(some 9), (.fa 3 (.t 1)), none⟩, ⟨(some 10), (.ld (.one (.str [])) (.t 9)), none⟩, ⟨(some 11), (.build [(1, (.str [])), (1, (.str [])), (1, (.int .i64 0)), (1, (.str []))] [(0, (1, (.t 4))), (1, (1, (.t 6))), (2, (1, (.t 8))), (3, (1, (.t 10)))]), none⟩, ⟨none, (.st (.st 4) (.t 2) (.t 11)), none⟩]) .ret))
def r_lwhoOf : List ARes := [(.c 2 (.st 4))]
theorem s_lwhoOf : slimF Tryd.prog Tryd.f26 = some (c_lwhoOf, r_lwhoOf) := by kernel_rfl
def c_known11 : ACode := (.seq (.reg none [⟨(some 0), (.mv (.c (.bool false))), none⟩]) (.seq (.reg none [⟨(some 8), (.call 27 [(.c (.str [65, 32, 60, 97, 64, 98, 62, 32, 49, 50, 32, 43, 48, 48, 48, 48]))]), none⟩, ⟨(some 7), (.mv (.t 8)), none⟩, ⟨(some 9), (.ext (.t 7) 0), none⟩, ⟨(some 10), (.ext (.t 7) 1), none⟩, ⟨(some 1), (.new 32 [(1, (.str [])), (1, (.str [])), (1, (.int .i64 0)), (1, (.str []))]), none⟩, ⟨none, (.st (.st 4) (.t 1) (.t 9)), none⟩, ⟨(some 2), (.mv (.t 10)), none⟩]) (.seq (.reg none [⟨(some 12), (.ld (.st 4) (.t 1)), none⟩, ⟨(some 13), (.ld (.st 4) (.t 1)), none⟩, ⟨(some 14), (.build [(1, (.str [])), (1, (.str []))] [(0, (1, (.c (.str [107])))), (1, (1, (.c (.str [120, 10, 121]))))]), none⟩, ⟨(some 15), (.buildSl 54 2 [(.t 14)]), none⟩, ⟨(some 16), (.build [(20, (.blob (List.replicate 20 (.int .u8 0)))), (1, (.con (.slice none 0 0))), (1, (.str [])), (1, (.str [])), (1, (.int .i64 0)), (1, (.str [])), (1, (.str [])), (1, (.str [])), (1, (.int .i64 0)), (1, (.str [])), (1, (.con (.slice none 0 0))), (1, (.str []))] [(21, (4, (.t 12))), (25, (4, (.t 13))), (29, (1, (.t 15))), (30, (1, (.c (.str [109]))))]), none⟩, ⟨(some 17), (.call 6 [(.t 16)]), none⟩, ⟨(some 11), (.mv (.t 17)), none⟩, ⟨(some 18), (.ext (.t 11) 0), none⟩, ⟨(some 19), (.ext (.t 11) 1), none⟩, ⟨(some 3), (.mv (.t 18)), none⟩, ⟨(some 4), (.mv (.t 19)), none⟩]) (.seq (.reg none [⟨(some 21), (.mv (.t 3)), none⟩, ⟨(some 22), (.call 7 [(.t 21)]), none⟩, ⟨(some 20), (.mv (.t 22)), none⟩, ⟨(some 23), (.ext (.t 20) 0), none⟩, ⟨(some 24), (.ext (.t 20) 1), none⟩, ⟨(some 5), (.new 35 [(20, (.blob (List.replicate 20 (.int .u8 0)))), (1, (.con (.slice none 0 0))), (1, (.str [])), (1, (.str [])), (1, (.int .i64 0)), (1, (.str [])), (1, (.str [])), (1, (.str [])), (1, (.int .i64 0)), (1, (.str [])), (1, (.con (.slice none 0 0))), (1, (.str []))]), none⟩, ⟨none, (.st (.st 31) (.t 5) (.t 23)), none⟩, ⟨(some 6), (.mv (.t 24)), none⟩]) (.seq (.reg none [⟨(some 25), (.mv (.t 2)), none⟩, ⟨(some 26), (.bin .eql (.t 25) (.c (.int .i64 0))), none⟩, ⟨(some 27), (.mv (.t 26)), none⟩, ⟨(some 28), (.ld (.st 4) (.t 1)), (some (27, true))⟩, ⟨(some 29), (.build [(1, (.str [])), (1, (.str [])), (1, (.int .i64 0)), (1, (.str []))] [(0, (1, (.c (.str [65])))), (1, (1, (.c (.str [97, 64, 98])))), (2, (1, (.c (.int .i64 12)))), (3, (1, (.c (.str [43, 48, 48, 48, 48]))))]), (some (27, true))⟩, ⟨(some 30), (.eqS false [(0, ((.one (.str [])), 0)), (1, ((.one (.str [])), 0)), (2, ((.one (.int .i64 0)), 1)), (3, ((.one (.str [])), 0))] (.t 28) (.t 29)), (some (27, true))⟩, ⟨(some 31), (.pick (.t 27) (.t 30) (.c (.bool false))), none⟩, ⟨(some 32), (.mv (.t 31)), none⟩, ⟨(some 33), (.mv (.t 4)), (some (32, true))⟩, ⟨(some 34), (.bin .eql (.t 33) (.c (.int .i64 0))), (some (32, true))⟩, ⟨(some 35), (.pick (.t 32) (.t 34) (.c (.bool false))), none⟩, ⟨(some 36), (.mv (.t 35)), none⟩, ⟨(some 37), (.mv (.t 3)), (some (36, true))⟩, ⟨(some 38), (.len none false (.t 37)), (some (36, true))⟩, ⟨(some 39), (.bin .gtr (.t 38) (.c (.int .i64 40))), (some (36, true))⟩, ⟨(some 40), (.pick (.t 36) (.t 39) (.c (.bool false))), none⟩, ⟨(some 41), (.mv (.t 40)), none⟩, ⟨(some 42), (.mv (.t 6)), (some (41, true))⟩, ⟨(some 43), (.bin .eql (.t 42) (.c (.int .i64 0))), (some (41, true))⟩, ⟨(some 44), (.pick (.t 41) (.t 43) (.c (.bool false))), none⟩, ⟨(some 45), (.mv (.t 44)), none⟩, ⟨(some 46), (.fa 30 (.t 5)), (some (45, true))⟩, ⟨(some 47), (.ld (.one (.str [])) (.t 46)), (some (45, true))⟩, ⟨(some 48), (.bin .eql (.t 47) (.c (.str [109]))), (some (45, true))⟩, ⟨(some 49), (.pick (.t 45) (.t 48) (.c (.bool false))), none⟩, ⟨(some 50), (.mv (.t 49)), none⟩, ⟨(some 51), (.fa 29 (.t 5)), (some (50, true))⟩, ⟨(some 52), (.ld (.one (.con (.slice none 0 0))) (.t 51)), (some (50, true))⟩, ⟨(some 53), (.len none false (.t 52)), (some (50, true))⟩, ⟨(some 54), (.bin .eql (.t 53) (.c (.int .i64 1))), (some (50, true))⟩, ⟨(some 55), (.pick (.t 50) (.t 54) (.c (.bool false))), none⟩, ⟨(some 0), (.mv (.t 55)), none⟩]) .ret)))))
def r_known11 : List ARes := [(.t 0)]
theorem s_known11 : slimF Tryd.prog Tryd.f10 = some (c_known11, r_known11) := by kernel_rfl
def c_lmore : ACode := (.seq (.reg none [⟨(some 4), (.mv (.c (.bool false))), none⟩]) (.seq (.reg (some [(0, false), (1, false), (2, false), (3, false), (4, false), (5, false), (6, false), (7, false), (8, false), (9, false), (10, false), (11, true)]) [⟨(some 16), (.mv (.t 0)), none⟩, ⟨(some 17), (.mv (.t 0)), none⟩, ⟨(some 18), (.len none false (.t 17)), none⟩, ⟨(some 19), (.mm false (.t 18) (.c (.int .i64 2000))), none⟩, ⟨(some 20), (.sl 1 (.t 16) none (some (.t 19))), none⟩, ⟨(some 21), (.mv (.t 1)), none⟩, ⟨(some 22), (.mv (.t 1)), none⟩, ⟨(some 23), (.len none false (.t 22)), none⟩, ⟨(some 24), (.mm false (.t 23) (.c (.int .i64 200))), none⟩, ⟨(some 25), (.sl 1 (.t 21) none (some (.t 24))), none⟩, ⟨(some 0), (.mv (.t 20)), none⟩, ⟨(some 1), (.mv (.t 25)), none⟩]) (.seq (.reg none [⟨(some 26), (.buildSl 5 1 []), none⟩, ⟨(some 27), (.mv (.t 0)), none⟩, ⟨(some 28), (.app 5 1 1 (.t 26) (.t 27)), none⟩, ⟨(some 29), (.mv (.t 1)), none⟩, ⟨(some 30), (.app 5 1 1 (.t 28) (.t 29)), none⟩, ⟨(some 5), (.mv (.t 30)), none⟩]) (.seq (.reg none [⟨(some 32), (.mv (.t 0)), none⟩, ⟨(some 33), (.call 7 [(.t 32)]), none⟩, ⟨(some 31), (.mv (.t 33)), none⟩, ⟨(some 34), (.ext (.t 31) 0), none⟩, ⟨(some 35), (.ext (.t 31) 1), none⟩, ⟨(some 6), (.new 35 [(20, (.blob (List.replicate 20 (.int .u8 0)))), (1, (.con (.slice none 0 0))), (1, (.str [])), (1, (.str [])), (1, (.int .i64 0)), (1, (.str [])), (1, (.str [])), (1, (.str [])), (1, (.int .i64 0)), (1, (.str [])), (1, (.con (.slice none 0 0))), (1, (.str []))]), none⟩, ⟨none, (.st (.st 31) (.t 6) (.t 34)), none⟩, ⟨(some 7), (.mv (.t 35)), none⟩]) (.seq (.reg none [⟨(some 37), (.mv (.t 5)), none⟩, ⟨(some 38), (.call 7 [(.t 37)]), none⟩, ⟨(some 36), (.mv (.t 38)), none⟩, ⟨(some 39), (.ext (.t 36) 0), none⟩, ⟨(some 40), (.ext (.t 36) 1), none⟩, ⟨(some 8), (.new 35 [(20, (.blob (List.replicate 20 (.int .u8 0)))), (1, (.con (.slice none 0 0))), (1, (.str [])), (1, (.str [])), (1, (.int .i64 0)), (1, (.str [])), (1, (.str [])), (1, (.str [])), (1, (.int .i64 0)), (1, (.str [])), (1, (.con (.slice none 0 0))), (1, (.str []))]), none⟩, ⟨none, (.st (.st 31) (.t 8) (.t 39)), none⟩, ⟨(some 9), (.mv (.t 40)), none⟩]) (.seq (.reg none [⟨(some 42), (.mv (.t 0)), none⟩, ⟨(some 43), (.call 11 [(.t 42)]), none⟩, ⟨(some 41), (.mv (.t 43)), none⟩, ⟨(some 44), (.ext (.t 41) 0), none⟩, ⟨(some 45), (.ext (.t 41) 1), none⟩, ⟨(some 10), (.new 47 [(20, (.blob (List.replicate 20 (.int .u8 0)))), (1, (.int .i64 0)), (1, (.str [])), (1, (.str [])), (1, (.str [])), (1, (.int .i64 0)), (1, (.str [])), (1, (.str []))]), none⟩, ⟨none, (.st (.st 27) (.t 10) (.t 44)), none⟩, ⟨(some 11), (.mv (.t 45)), none⟩]) (.seq (.reg none [⟨(some 47), (.mv (.t 5)), none⟩, ⟨(some 48), (.call 11 [(.t 47)]), none⟩, ⟨(some 46), (.mv (.t 48)), none⟩, ⟨(some 49), (.ext (.t 46) 0), none⟩, ⟨(some 50), (.ext (.t 46) 1), none⟩, ⟨(some 12), (.new 47 [(20, (.blob (List.replicate 20 (.int .u8 0)))), (1, (.int .i64 0)), (1, (.str [])), (1, (.str [])), (1, (.str [])), (1, (.int .i64 0)), (1, (.str [])), (1, (.str []))]), none⟩, ⟨none, (.st (.st 27) (.t 12) (.t 49)), none⟩, ⟨(some 13), (.mv (.t 50)), none⟩]) (.seq (.seq (.reg none [⟨(some 51), (.mv (.t 7)), none⟩, ⟨(some 52), (.bin .eql (.t 51) (.c (.int .i64 0))), none⟩]) (.cond (.t 52) (.seq (.reg none [⟨(some 53), (.fa 30 (.t 6)), none⟩, ⟨(some 54), (.ld (.one (.str [])) (.t 53)), none⟩, ⟨(some 55), (.mv (.t 1)), none⟩, ⟨(some 56), (.toStr (.t 55)), none⟩, ⟨(some 57), (.bin .add (.t 54) (.t 56)), none⟩, ⟨(some 58), (.fa 30 (.t 6)), none⟩, ⟨none, (.st (.one (.str [])) (.t 58) (.t 57)), none⟩]) (.seq (.seq (.reg (some [(0, true), (1, true), (2, true), (3, false), (4, false), (4, false), (6, true), (7, true), (8, true), (9, true)]) [⟨(some 59), (.mv (.t 9)), none⟩, ⟨(some 60), (.bin .neq (.t 59) (.c (.int .i64 0))), none⟩, ⟨(some 61), (.mv (.t 60)), none⟩, ⟨(some 62), (.ld (.st 31) (.t 6)), (some (61, false))⟩, ⟨(some 63), (.call 9 [(.t 62)]), (some (61, false))⟩, ⟨(some 64), (.ld (.st 31) (.t 8)), (some (61, false))⟩, ⟨(some 65), (.call 9 [(.t 64)]), (some (61, false))⟩, ⟨(some 66), (.call 8 [(.t 63), (.t 65)]), (some (61, false))⟩, ⟨(some 67), (.un .not (.t 66)), (some (61, false))⟩, ⟨(some 68), (.pick (.t 61) (.c (.bool true)) (.t 67)), none⟩]) (.cond (.t 68) (.seq (.reg none [⟨(some 4), (.mv (.c (.bool false))), none⟩]) .ret) .skip)) (.seq (.reg none [⟨(some 70), (.mv (.t 0)), none⟩, ⟨(some 71), (.mv (.t 0)), none⟩, ⟨(some 72), (.len none false (.t 71)), none⟩, ⟨(some 73), (.mm false (.t 72) (.c (.int .i64 45))), none⟩, ⟨(some 74), (.sl 1 (.t 70) none (some (.t 73))), none⟩, ⟨(some 75), (.call 7 [(.t 74)]), none⟩, ⟨(some 69), (.mv (.t 75)), none⟩, ⟨(some 76), (.ext (.t 69) 0), none⟩, ⟨(some 77), (.ext (.t 69) 1), none⟩, ⟨(some 14), (.new 35 [(20, (.blob (List.replicate 20 (.int .u8 0)))), (1, (.con (.slice none 0 0))), (1, (.str [])), (1, (.str [])), (1, (.int .i64 0)), (1, (.str [])), (1, (.str [])), (1, (.str [])), (1, (.int .i64 0)), (1, (.str [])), (1, (.con (.slice none 0 0))), (1, (.str []))]), none⟩, ⟨none, (.st (.st 31) (.t 14) (.t 76)), none⟩, ⟨(some 15), (.mv (.t 77)), none⟩]) (.seq (.reg none [⟨(some 78), (.mv (.t 15)), none⟩, ⟨(some 79), (.bin .neq (.t 78) (.c (.int .i64 4))), none⟩]) (.cond (.t 79) (.seq (.reg none [⟨(some 4), (.mv (.c (.bool false))), none⟩]) .ret) .skip))))) .skip)) (.seq (.seq (.reg none [⟨(some 80), (.mv (.t 11)), none⟩, ⟨(some 81), (.bin .eql (.t 80) (.c (.int .i64 0))), none⟩]) (.cond (.t 81) (.seq (.reg none [⟨(some 82), (.fa 26 (.t 10)), none⟩, ⟨(some 83), (.ld (.one (.str [])) (.t 82)), none⟩, ⟨(some 84), (.mv (.t 1)), none⟩, ⟨(some 85), (.toStr (.t 84)), none⟩, ⟨(some 86), (.bin .add (.t 83) (.t 85)), none⟩, ⟨(some 87), (.fa 26 (.t 10)), none⟩, ⟨none, (.st (.one (.str [])) (.t 87) (.t 86)), none⟩]) (.seq (.reg none [⟨(some 88), (.mv (.t 13)), none⟩, ⟨(some 89), (.bin .neq (.t 88) (.c (.int .i64 0))), none⟩, ⟨(some 90), (.mv (.t 89)), none⟩, ⟨(some 91), (.ld (.st 27) (.t 10)), (some (90, false))⟩, ⟨(some 92), (.ld (.st 27) (.t 12)), (some (90, false))⟩, ⟨(some 93), (.eqS true [(0, ((.arr 20), 20)), (20, ((.one (.int .i64 0)), 1)), (21, ((.one (.str [])), 0)), (22, ((.one (.str [])), 0)), (23, ((.one (.str [])), 0)), (24, ((.one (.int .i64 0)), 1)), (25, ((.one (.str [])), 0)), (26, ((.one (.str [])), 0))] (.t 91) (.t 92)), (some (90, false))⟩, ⟨(some 94), (.pick (.t 90) (.c (.bool true)) (.t 93)), none⟩]) (.cond (.t 94) (.seq (.reg none [⟨(some 4), (.mv (.c (.bool false))), none⟩]) .ret) .skip))) .skip)) (.seq (.reg none [⟨(some 95), (.call 10 []), none⟩, ⟨(some 4), (.mv (.t 95)), none⟩]) .ret))))))))))
def r_lmore : List ARes := [(.t 4)]
theorem s_lmore : slimF Tryd.prog Tryd.f4 = some (c_lmore, r_lmore) := by kernel_rfl
end Go.Proofs.YtlkaaoekbmegkaaDoor
