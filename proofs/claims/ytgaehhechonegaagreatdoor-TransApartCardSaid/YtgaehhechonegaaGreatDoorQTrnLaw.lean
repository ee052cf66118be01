import Derived.Test.YtgaehhechonegaaGreatDoorQRComCode
import Derived.Test.YtgaehhechonegaaGreatDoorChecked
import Derived.Test.YtgaehhechonegaaGreatDoorQAMS
namespace Go.Proofs.YtgaehhechonegaaGreatDoor
set_option linter.all false
open Go.RowKit
open Go.Lib (index hasPrefix cut indexAny itoa)
def hgW : List UInt8 := [104, 103]
def gitW : List UInt8 := [103, 105, 116]
def zr20 : List UInt8 := List.replicate 20 0
def wordsT (c : ChgL) : List UInt8 := c.user ++ 10 :: (itoa c.time ++ 32 :: (itoa c.zone ++ 10 :: c.extras.flatMap exL))
def spG : Nat → List UInt8 → List ExL → List ExL
  | 0, _, acc => acc
  | f + 1, r, acc => if r = [] then acc else
      if hasPrefix (cut r [10]).1 [32] = true ∧ acc ≠ [] then spG f (cut r [10]).2.1 (cont1 acc ((cut r [10]).1.drop 1))
      else spG f (cut r [10]).2.1 (acc ++ [((cut (cut r [10]).1 [32]).1, (cut (cut r [10]).1 [32]).2.1)])
def s1 (s : List UInt8) := cut s [10]
def s2 (s : List UInt8) := cut (s1 s).2.1 [10]
def s3 (s : List UInt8) := cut (s2 s).1 [32]
noncomputable def spkC (s d : List UInt8) : ChgL := ⟨zr20, (s1 s).1, nmV (s3 s).1, nmV (s3 s).2.1, spG ((s2 s).2.1.length + 1) (s2 s).2.1 [], [], d⟩
noncomputable def spkB (s d : List UInt8) : Bool := rightH (spkC s d) && decide (wordsT (spkC s d) = s)
theorem pre32 (l r : List UInt8) : hasPrefix (32 :: l ++ r) [32] = true := pre_app [32] (l ++ r)
theorem spG_nil (f : Nat) (acc : List ExL) : spG f [] acc = acc := by cases f <;> rfl
theorem spG_cont : ∀ (n : Nat) (v : List UInt8), v.length ≤ n → ∀ (f : Nat) (r : List UInt8) (acc : List ExL) (k w : List UInt8), v.length + 1 + r.length < f →
    ∃ f', r.length < f' ∧ spG f (32 :: (sb v ++ 10 :: r)) (acc ++ [(k, w)]) = spG f' r (acc ++ [(k, w ++ 10 :: v)])
  | n, v, hn, f, r, acc, k, w, hf => by
    obtain ⟨f, rfl⟩ : ∃ j, f = j + 1 := ⟨f - 1, by omega⟩
    have ha : acc ++ [(k, w)] ≠ [] := by simp
    rcases split10 v with h | ⟨a, b, rfl, h⟩
    · rw [sb_none h]
      have hc : cut (32 :: (v ++ 10 :: r)) [10] = (32 :: v, r, true) := cut_1 (a := 32 :: v) (by intro hm; rcases List.mem_cons.1 hm with hm | hm <;> first | exact absurd hm (by decide) | exact h hm)
      refine ⟨f, by omega, ?_⟩
      rw [spG, if_neg (by simp), hc]
      simp only
      rw [if_pos ⟨by have := pre32 v []; rwa [List.append_nil] at this, ha⟩, List.drop_succ_cons, List.drop_zero, cont1_app]
    · simp only [List.length_append, List.length_cons] at hn hf
      match n, hn with
      | n + 1, hn =>
        obtain ⟨f', h1, h2⟩ := spG_cont n b (by omega) f r acc k (w ++ 10 :: a) (by omega)
        refine ⟨f', h1, ?_⟩
        rw [sb_app h]
        have hc : cut (32 :: (a ++ 10 :: 32 :: sb b ++ 10 :: r)) [10] = (32 :: a, 32 :: (sb b ++ 10 :: r), true) := by
          have e : 32 :: (a ++ 10 :: 32 :: sb b ++ 10 :: r) = (32 :: a) ++ 10 :: (32 :: (sb b ++ 10 :: r)) := by simp
          rw [e]
          exact cut_1 (by intro hm; rcases List.mem_cons.1 hm with hm | hm <;> first | exact absurd hm (by decide) | exact h hm)
        rw [spG, if_neg (by simp), hc]
        simp only
        rw [if_pos ⟨by have := pre32 a []; rwa [List.append_nil] at this, ha⟩, List.drop_succ_cons, List.drop_zero, cont1_app, h2]
        simp
theorem keyed_no {k : List UInt8} (h : keyedB k = true) : k ≠ [] ∧ (10 : UInt8) ∉ k ∧ (32 : UInt8) ∉ k := by
  refine ⟨?_, keyC_no h (by decide), keyC_no h (by decide)⟩
  rintro rfl; revert h; decide
theorem sb_ge : ∀ s : List UInt8, s.length ≤ (sb s).length
  | [] => Nat.le_refl _
  | c :: s => by
    have ih := sb_ge s
    unfold sb at ih ⊢
    by_cases h : c = 10
    · subst h; rw [subst1_hit]; simp only [List.length_append, List.length_cons, List.length_nil]; omega
    · rw [subst1_miss _ _ h]; simp only [List.length_cons]; omega
theorem spG_one {x : ExL} (h : keyedB x.1 = true) (f : Nat) (r : List UInt8) (acc : List ExL) (hf : (exL x ++ r).length < f) : ∃ f', r.length < f' ∧ spG f (exL x ++ r) acc = spG f' r (acc ++ [x]) := by
  obtain ⟨k, v⟩ := x
  obtain ⟨h1, h2, h3⟩ := keyed_no h
  simp only at h1 h2 h3
  obtain ⟨f, rfl⟩ : ∃ j, f = j + 1 := ⟨f - 1, by omega⟩
  rw [exL_shape] at hf ⊢
  simp only [List.length_append, List.length_cons] at hf ⊢
  have hpre : ∀ l : List UInt8, hasPrefix (k ++ 32 :: l) [32] = false := by
    intro l
    cases hh : hasPrefix (k ++ 32 :: l) [32] with
    | false => rfl
    | true =>
      obtain ⟨q, hq⟩ := pre_iff.1 hh
      cases k with
      | nil => exact absurd rfl h1
      | cons y k =>
        injection hq with hq
        exact absurd (by rw [hq]; exact List.mem_cons_self ..) h3
  rcases split10 v with h9 | ⟨a, b, rfl, h9⟩
  · rw [sb_none h9] at hf ⊢
    have e : k ++ 32 :: (v ++ 10 :: r) = (k ++ 32 :: v) ++ 10 :: r := by simp
    have hc : cut (k ++ 32 :: (v ++ 10 :: r)) [10] = (k ++ 32 :: v, r, true) := by
      rw [e]
      exact cut_1 (by simp only [List.mem_append, List.mem_cons, not_or]; exact ⟨h2, by decide, h9⟩)
    refine ⟨f, by omega, ?_⟩
    rw [spG, if_neg (by cases k <;> simp), hc]
    simp only
    rw [if_neg (by rw [hpre]; simp), cut_1 h3]
  · rw [sb_app h9] at hf ⊢
    have hb : b.length ≤ (sb b).length := sb_ge b
    simp only [List.length_append, List.length_cons] at hf
    obtain ⟨f', g1, g2⟩ := spG_cont b.length b (Nat.le_refl _) f r acc k a (by omega)
    refine ⟨f', g1, ?_⟩
    have e : k ++ 32 :: (a ++ 10 :: 32 :: sb b ++ 10 :: r) = (k ++ 32 :: a) ++ 10 :: (32 :: (sb b ++ 10 :: r)) := by simp
    have hc : cut (k ++ 32 :: (a ++ 10 :: 32 :: sb b ++ 10 :: r)) [10] = (k ++ 32 :: a, 32 :: (sb b ++ 10 :: r), true) := by
      rw [e]
      exact cut_1 (by simp only [List.mem_append, List.mem_cons, not_or]; exact ⟨h2, by decide, h9⟩)
    rw [spG, if_neg (by cases k <;> simp), hc]
    simp only
    rw [if_neg (by rw [hpre]; simp), cut_1 h3, g2]
theorem spG_flat : ∀ (es : List ExL) (f : Nat) (acc : List ExL), (es.flatMap exL).length < f → (∀ x ∈ es, keyedB x.1 = true) → spG f (es.flatMap exL) acc = acc ++ es
  | [], f, acc, _, _ => by rw [List.flatMap_nil, spG_nil, List.append_nil]
  | x :: es, f, acc, hf, h => by
    rw [List.flatMap_cons] at hf ⊢
    obtain ⟨f', h1, h2⟩ := spG_one (h x (List.mem_cons_self ..)) f (es.flatMap exL) acc hf
    rw [h2, spG_flat es f' _ h1 fun y hy => h y (List.mem_cons_of_mem _ hy)]
    simp
theorem spk_words {c : ChgL} (h : rightH c = true) (hm : c.man = zr20) (hf : c.files = []) : spkC (wordsT c) c.desc = c ∧ (s1 (wordsT c)).2.2 = true ∧ (s2 (wordsT c)).2.2 = true ∧ (s3 (wordsT c)).2.2 = true := by
  have hr := rightH_of h
  generalize hs : wordsT c = s
  unfold wordsT at hs
  have e1 : s1 s = (c.user, itoa c.time ++ 32 :: (itoa c.zone ++ 10 :: c.extras.flatMap exL), true) := by unfold s1; rw [← hs]; exact cut_1 hr.user.2
  have n1 := itoa_no c.time 10 (by decide) (by decide)
  have n2 := itoa_no c.zone 10 (by decide) (by decide)
  have n3 := itoa_no c.time 32 (by decide) (by decide)
  have e2 : s2 s = (itoa c.time ++ 32 :: itoa c.zone, c.extras.flatMap exL, true) := by
    unfold s2; rw [e1]
    have e : itoa c.time ++ 32 :: (itoa c.zone ++ 10 :: c.extras.flatMap exL) = (itoa c.time ++ 32 :: itoa c.zone) ++ 10 :: c.extras.flatMap exL := by simp
    simp only
    rw [e]
    exact cut_1 (by simp only [List.mem_append, List.mem_cons, not_or]; exact ⟨n1, by decide, n2⟩)
  have e3 : s3 s = (itoa c.time, itoa c.zone, true) := by unfold s3; rw [e2]; exact cut_1 n3
  obtain ⟨-, m2⟩ := nm_itoa (z := c.time) (by have := hr.time; omega) hr.time.2
  obtain ⟨-, m4⟩ := nm_itoa (z := c.zone) (by have := hr.zone; omega) (by have := hr.zone; omega)
  refine ⟨?_, by rw [e1], by rw [e2], by rw [e3]⟩
  unfold spkC
  rw [e1, e2, e3]
  simp only
  rw [m2, m4, spG_flat c.extras _ [] (Nat.lt_succ_self _) hr.keys, List.nil_append, ← hm, ← hf]
theorem spk_flags {s d : List UInt8} (h : spkB s d = true) : rightH (spkC s d) = true ∧ wordsT (spkC s d) = s ∧ (s1 s).2.2 = true ∧ (s2 s).2.2 = true ∧ (s3 s).2.2 = true := by
  unfold spkB at h
  rw [Bool.and_eq_true, decide_eq_true_eq] at h
  obtain ⟨h1, h2⟩ := h
  obtain ⟨-, h4, h5, h6⟩ := spk_words h1 rfl rfl
  rw [h2] at h4 h5 h6
  exact ⟨h1, h2, h4, h5, h6⟩
theorem spkB_words {c : ChgL} (h : rightH c = true) (hm : c.man = zr20) (hf : c.files = []) : spkB (wordsT c) c.desc = true := by
  unfold spkB
  rw [(spk_words h hm hf).1, h]; simp
end Go.Proofs.YtgaehhechonegaaGreatDoor
namespace Go.Proofs.YtgaehhechonegaaGreatDoor
set_option linter.all false
open Go.RowKit
open Go.Lib (index hasPrefix cut indexAny itoa)
def plainH (c : ComL) : ChgL := ⟨zr20, c.author.name ++ [32, 60] ++ c.author.mail ++ [62], c.author.time, 0, [(gitW, bodyC ⟨zr20, [], c.author, c.committer, c.extras, []⟩)], [], c.message⟩
def hgWho (t : Int) : WhoL := ⟨hgW, hgW, t, [43, 48, 48, 48, 48]⟩
def wrapC (x : ChgL) : ComL := ⟨zr20, [], hgWho x.time, hgWho x.time, [(hgW, wordsT x)], x.desc⟩
def only1 : List ExL → Option ExL
  | [x] => some x
  | _ => none
def noTree (c : ComL) : Bool := decide (c.tree = zr20) && decide (c.parents = []) && decide (c.message = [])
def withM (c : ComL) (m : List UInt8) : ComL := ⟨c.tree, c.parents, c.author, c.committer, c.extras, m⟩
open Classical in
noncomputable def ofStep (B : ChgL → ComL) (c : ComL) : ChgL :=
  match only1 c.extras with
  | some (k, v) => if k = hgW ∧ spkB v c.message = true ∧ B (spkC v c.message) = c then spkC v c.message else plainH c
  | none => plainH c
open Classical in
noncomputable def bkStep (O : ComL → ChgL) (x : ChgL) : ComL :=
  match only1 x.extras with
  | some (k, v) => if k = gitW ∧ parB11 v = true ∧ noTree (parC11 v) = true ∧ O (withM (parC11 v) x.desc) = x then withM (parC11 v) x.desc else wrapC x
  | none => wrapC x
noncomputable def obF : Nat → (ComL → ChgL) × (ChgL → ComL)
  | 0 => (plainH, wrapC)
  | n + 1 => (ofStep (obF n).2, bkStep (obF n).1)
theorem obF_of (n : Nat) (c : ComL) : (obF (n + 1)).1 c = ofStep (obF n).2 c := rfl
theorem obF_back (n : Nat) (x : ChgL) : (obF (n + 1)).2 x = bkStep (obF n).1 x := rfl
def mz (es : List ExL) : Nat := (es.map fun x => x.2.length).sum
theorem mz_flat : ∀ es : List ExL, mz es ≤ (es.flatMap exL).length
  | [] => Nat.le_refl _
  | x :: es => by
    have ih := mz_flat es
    have h : x.2.length ≤ (exL x).length := by
      have := sb_ge x.2
      unfold exL; simp only [List.length_append]; unfold sb at this; omega
    simp only [mz, List.map_cons, List.sum_cons, List.flatMap_cons, List.length_append] at ih ⊢; omega
theorem only1_some {es : List ExL} {x : ExL} (h : only1 es = some x) : es = [x] := by
  match es, h with
  | [_], h => simp only [only1, Option.some.injEq] at h; rw [h]
theorem mz_one {es : List ExL} {x : ExL} (h : only1 es = some x) : mz es = x.2.length := by rw [only1_some h]; simp [mz]
theorem spk_mz {v d : List UInt8} (h : spkB v d = true) : mz (spkC v d).extras < v.length := by
  have h2 := (spk_flags h).2.1
  have h3 := mz_flat (spkC v d).extras
  have := congrArg List.length h2
  unfold wordsT at this
  simp only [List.length_append, List.length_cons] at this
  omega
theorem par_mz {v : List UInt8} (h : parB11 v = true) : mz (parC11 v).extras < v.length := by
  have h2 := (body_com h).2
  have h3 := mz_flat (parC11 v).extras
  have := congrArg List.length h2
  rw [bodyC_shape] at this
  simp only [List.length_append, List.length_cons] at this
  omega
theorem spkB_nil (d : List UInt8) : spkB [] d = false := by
  cases h : spkB [] d with
  | false => rfl
  | true => have := spk_mz h; simp at this
theorem parB_nil : parB11 [] = false := by
  cases h : parB11 [] with
  | false => rfl
  | true => have := par_mz h; simp at this
theorem ob_stab : ∀ (n m : Nat), (∀ c, mz c.extras ≤ n → mz c.extras ≤ m → (obF n).1 c = (obF m).1 c) ∧ (∀ x, mz x.extras ≤ n → mz x.extras ≤ m → (obF n).2 x = (obF m).2 x) := by
  have zero : ∀ m, (∀ c, mz c.extras ≤ 0 → (obF m).1 c = plainH c) ∧ (∀ x, mz x.extras ≤ 0 → (obF m).2 x = wrapC x) := by
    intro m
    cases m with
    | zero => exact ⟨fun _ _ => rfl, fun _ _ => rfl⟩
    | succ m =>
      constructor
      · intro c hc
        show ofStep _ c = _
        unfold ofStep
        cases ho : only1 c.extras with
        | none => rfl
        | some x =>
          obtain ⟨k, v⟩ := x
          have := mz_one ho
          have hv : v = [] := List.length_eq_zero_iff.1 (by simp only at this; omega)
          subst hv
          simp only
          rw [if_neg (by rw [spkB_nil]; simp)]
      · intro x hx
        show bkStep _ x = _
        unfold bkStep
        cases ho : only1 x.extras with
        | none => rfl
        | some y =>
          obtain ⟨k, v⟩ := y
          have := mz_one ho
          have hv : v = [] := List.length_eq_zero_iff.1 (by simp only at this; omega)
          subst hv
          simp only
          rw [if_neg (by rw [parB_nil]; simp)]
  intro n
  induction n with
  | zero => intro m; exact ⟨fun c h _ => by rw [(zero m).1 c h]; rfl, fun x h _ => by rw [(zero m).2 x h]; rfl⟩
  | succ n ih =>
    intro m
    cases m with
    | zero => exact ⟨fun c _ h => by rw [(zero (n + 1)).1 c h]; rfl, fun x _ h => by rw [(zero (n + 1)).2 x h]; rfl⟩
    | succ m =>
      obtain ⟨i1, i2⟩ := ih m
      constructor
      · intro c h1 h2
        show ofStep _ c = ofStep _ c
        unfold ofStep
        cases ho : only1 c.extras with
        | none => rfl
        | some y =>
          obtain ⟨k, v⟩ := y
          have hz := mz_one ho
          simp only at hz ⊢
          by_cases hs : spkB v c.message = true
          · have := spk_mz hs
            rw [i2 (spkC v c.message) (by omega) (by omega)]
          · rw [if_neg (fun h => hs h.2.1), if_neg (fun h => hs h.2.1)]
      · intro x h1 h2
        show bkStep _ x = bkStep _ x
        unfold bkStep
        cases ho : only1 x.extras with
        | none => rfl
        | some y =>
          obtain ⟨k, v⟩ := y
          have hz := mz_one ho
          simp only at hz ⊢
          by_cases hs : parB11 v = true
          · have := par_mz hs
            rw [i1 (withM (parC11 v) x.desc) (by show mz (parC11 v).extras ≤ n; omega) (by show mz (parC11 v).extras ≤ m; omega)]
          · rw [if_neg (fun h => hs h.2.1), if_neg (fun h => hs h.2.1)]
def aloneC (c : ComL) : ComL := ⟨zr20, [], c.author, c.committer, c.extras, c.message⟩
def ownH (c : ChgL) : ChgL := ⟨zr20, c.user, c.time, c.zone, c.extras, [], c.desc⟩
theorem right_plain {c : ComL} (h : rightC c = true) : rightH (plainH c) = true := by
  obtain ⟨h1, -, -⟩ := rightC_parts h
  unfold rightW at h1
  simp only [Bool.and_eq_true, Bool.not_eq_true', decide_eq_true_eq] at h1
  obtain ⟨⟨⟨h1, h2⟩, h3⟩, -⟩ := h1
  have hu : (plainH c).user.contains 10 = false := by
    cases hh : (plainH c).user.contains 10 with
    | false => rfl
    | true =>
      exfalso
      have hm := List.contains_iff_mem.1 hh
      simp only [plainH, List.mem_append, List.mem_cons, List.not_mem_nil, or_false] at hm
      have : hasL [60, 62, 10] (c.author.name ++ c.author.mail) = true := by
        refine (hasL_iff _ _).2 ⟨10, ?_, by decide⟩
        rcases hm with ((hm | hm | hm) | hm) | hm
        · exact List.mem_append_left _ hm
        · exact absurd hm (by decide)
        · exact absurd hm (by decide)
        · exact List.mem_append_right _ hm
        · exact absurd hm (by decide)
      rw [this] at h1; cases h1
  unfold rightH
  rw [hu]
  have hn : decide ((plainH c).user ≠ []) = true := decide_eq_true (by unfold plainH; simp)
  have ha : decide (0 ≤ (plainH c).time) = true := decide_eq_true h2
  have hb : decide ((plainH c).time < 4611686018427387904) = true := decide_eq_true h3
  rw [hn, ha, hb]
  have hx : ((plainH c).extras.all fun x => keyedB x.1) = true := by
    unfold plainH; simp only [List.all_cons, List.all_nil, Bool.and_true]; decide
  rw [hx]; rfl
theorem right_wrap {x : ChgL} (h : rightH x = true) : rightC (wrapC x) = true := by
  have hr := (rightH_of h).time
  have hw : rightW (hgWho x.time) = true := by
    unfold rightW hgWho
    simp only [decide_eq_true hr.1, decide_eq_true hr.2]
    decide
  unfold rightC wrapC
  simp only [hw, List.any_cons, List.any_nil, Bool.or_false]
  unfold badE
  simp only
  decide
theorem of_right (n : Nat) {c : ComL} (h : rightC c = true) : rightH ((obF n).1 c) = true ∧ ((obF n).1 c).man = zr20 ∧ ((obF n).1 c).files = [] := by
  cases n with
  | zero => exact ⟨right_plain h, rfl, rfl⟩
  | succ n =>
    show rightH (ofStep _ c) = true ∧ (ofStep _ c).man = zr20 ∧ (ofStep _ c).files = []
    unfold ofStep
    cases only1 c.extras with
    | none => exact ⟨right_plain h, rfl, rfl⟩
    | some y =>
      obtain ⟨k, v⟩ := y
      simp only
      split
      · rename_i hh
        exact ⟨(spk_flags hh.2.1).1, rfl, rfl⟩
      · exact ⟨right_plain h, rfl, rfl⟩
theorem noTree_iff {c : ComL} : noTree c = true ↔ c.tree = zr20 ∧ c.parents = [] ∧ c.message = [] := by
  unfold noTree; simp [and_assoc]
theorem back_right (n : Nat) {x : ChgL} (h : rightH x = true) : rightC ((obF n).2 x) = true ∧ ((obF n).2 x).tree = zr20 ∧ ((obF n).2 x).parents = [] := by
  cases n with
  | zero => exact ⟨right_wrap h, rfl, rfl⟩
  | succ n =>
    show rightC (bkStep _ x) = true ∧ (bkStep _ x).tree = zr20 ∧ (bkStep _ x).parents = []
    unfold bkStep
    cases only1 x.extras with
    | none => exact ⟨right_wrap h, rfl, rfl⟩
    | some y =>
      obtain ⟨k, v⟩ := y
      simp only
      split
      · rename_i hh
        obtain ⟨t1, t2, -⟩ := noTree_iff.1 hh.2.2.1
        exact ⟨(body_com hh.2.1).1, t1, t2⟩
      · exact ⟨right_wrap h, rfl, rfl⟩
theorem back_of {c : ComL} (h : rightC c = true) (ht : c.tree = zr20) (hp : c.parents = []) {n m : Nat} (hn : mz c.extras ≤ n) (hm : mz ((obF n).1 c).extras ≤ m) : (obF m).2 ((obF n).1 c) = c := by
  have plain : (obF n).1 c = plainH c → (obF m).2 ((obF n).1 c) = c := by
    intro e
    rw [e] at hm ⊢
    generalize hb : bodyC ⟨zr20, [], c.author, c.committer, c.extras, []⟩ = b
    have hd : rightC ⟨zr20, [], c.author, c.committer, c.extras, []⟩ = true := h
    obtain ⟨k1, k2⟩ := com_body hd rfl (fun p hp => by cases hp)
    rw [hb] at k1 k2
    have hmz := par_mz k1
    rw [k2] at hmz
    simp only at hmz
    have hex : (plainH c).extras = [(gitW, b)] := by unfold plainH; rw [hb]
    have hm2 : b.length ≤ m := by rw [hex] at hm; simpa [mz] using hm
    obtain ⟨m, rfl⟩ : ∃ j, m = j + 1 := ⟨m - 1, by omega⟩
    have hc : withM (parC11 b) (plainH c).desc = c := by
      rw [k2]; unfold withM plainH; cases c; simp only at ht hp ⊢; rw [ht, hp]
    have ho : (obF m).1 c = plainH c := by rw [← e]; exact (ob_stab m n).1 c (by omega) hn
    rw [obF_back]
    unfold bkStep
    rw [hex]
    simp only [only1]
    rw [hc, if_pos ⟨rfl, k1, by rw [k2]; exact noTree_iff.2 ⟨rfl, rfl, rfl⟩, ho⟩]
  cases n with
  | zero => exact plain rfl
  | succ n =>
    by_cases hp' : (obF (n + 1)).1 c = plainH c
    · exact plain hp'
    · have hst : (obF (n + 1)).1 c = ofStep (obF n).2 c := rfl
      unfold ofStep at hst
      cases ho : only1 c.extras with
      | none => rw [ho] at hst; exact absurd hst hp'
      | some y =>
        obtain ⟨k, v⟩ := y
        rw [ho] at hst
        simp only at hst
        split at hst
        · rename_i hh
          have hz := mz_one ho
          have := spk_mz hh.2.1
          simp only at hz
          rw [hst] at hm ⊢
          rw [(ob_stab m n).2 _ hm (by omega)]
          exact hh.2.2
        · exact absurd hst hp'
theorem of_back {x : ChgL} (h : rightH x = true) (ht : x.man = zr20) (hp : x.files = []) {n m : Nat} (hn : mz x.extras ≤ n) (hm : mz ((obF n).2 x).extras ≤ m) : (obF m).1 ((obF n).2 x) = x := by
  have plain : (obF n).2 x = wrapC x → (obF m).1 ((obF n).2 x) = x := by
    intro e
    rw [e] at hm ⊢
    have k1 := spkB_words h ht hp
    have k2 := (spk_words h ht hp).1
    have hmz := spk_mz k1
    rw [k2] at hmz
    have hm2 : (wordsT x).length ≤ m := by simpa [mz, wrapC] using hm
    obtain ⟨m, rfl⟩ : ∃ j, m = j + 1 := ⟨m - 1, by omega⟩
    have ho : (obF m).2 x = wrapC x := by rw [← e]; exact (ob_stab m n).2 x (by omega) hn
    rw [obF_of]
    unfold ofStep
    have hex : (wrapC x).extras = [(hgW, wordsT x)] := rfl
    have hme : (wrapC x).message = x.desc := rfl
    rw [hex, hme]
    simp only [only1]
    rw [k2, if_pos ⟨rfl, k1, ho⟩]
  cases n with
  | zero => exact plain rfl
  | succ n =>
    by_cases hp' : (obF (n + 1)).2 x = wrapC x
    · exact plain hp'
    · have hst : (obF (n + 1)).2 x = bkStep (obF n).1 x := rfl
      unfold bkStep at hst
      cases ho : only1 x.extras with
      | none => rw [ho] at hst; exact absurd hst hp'
      | some y =>
        obtain ⟨k, v⟩ := y
        rw [ho] at hst
        simp only at hst
        split at hst
        · rename_i hh
          have hz := mz_one ho
          have := par_mz hh.2.1
          simp only at hz
          rw [hst] at hm ⊢
          rw [(ob_stab m n).1 _ hm (by show mz (parC11 v).extras ≤ n; omega)]
          exact hh.2.2.2
        · exact absurd hst hp'
end Go.Proofs.YtgaehhechonegaaGreatDoor
namespace Go.Proofs.YtgaehhechonegaaGreatDoor
set_option linter.all false
open Go.RowKit
def c_talone : ACode := (.seq (.reg none [⟨(some 1), (.box 34 31 (.t 0)), none⟩, ⟨(some 2), (.new 34 [(20, (.blob (List.replicate 20 (.int .u8 0)))), (1, (.con (.slice none 0 0))), (1, (.str [])), (1, (.str [])), (1, (.int .i64 0)), (1, (.str [])), (1, (.str [])), (1, (.str [])), (1, (.int .i64 0)), (1, (.str [])), (1, (.con (.slice none 0 0))), (1, (.str []))]), none⟩]) (.seq (.reg none [⟨(some 3), (.buildA (List.replicate 20 (.int .u8 0)) []), none⟩, ⟨(some 4), (.fa 0 (.t 1)), none⟩, ⟨none, (.st (.arr 20) (.t 4) (.t 3)), none⟩, ⟨(some 5), (.fa 20 (.t 1)), none⟩, ⟨none, (.st (.one (.con (.slice none 0 0))) (.t 5) (.c (.con (.slice none 0 0)))), none⟩]) (.seq (.reg none [⟨(some 6), (.ld (.st 31) (.t 1)), none⟩, ⟨none, (.st (.st 31) (.t 2) (.t 6)), none⟩]) .ret)))
def r_talone : List ARes := [(.c 2 (.st 31))]
theorem s_talone : slimF Tryz.prog Tryz.f31 = some (c_talone, r_talone) := by kernel_rfl
def c_town : ACode := (.seq (.reg none [⟨(some 1), (.box 40 26 (.t 0)), none⟩, ⟨(some 2), (.new 40 [(20, (.blob (List.replicate 20 (.int .u8 0)))), (1, (.str [])), (1, (.int .i64 0)), (1, (.int .i64 0)), (1, (.con (.slice none 0 0))), (1, (.con (.slice none 0 0))), (1, (.str []))]), none⟩]) (.seq (.reg none [⟨(some 3), (.buildA (List.replicate 20 (.int .u8 0)) []), none⟩, ⟨(some 4), (.fa 0 (.t 1)), none⟩, ⟨none, (.st (.arr 20) (.t 4) (.t 3)), none⟩, ⟨(some 5), (.fa 24 (.t 1)), none⟩, ⟨none, (.st (.one (.con (.slice none 0 0))) (.t 5) (.c (.con (.slice none 0 0)))), none⟩]) (.seq (.reg none [⟨(some 6), (.ld (.st 26) (.t 1)), none⟩, ⟨none, (.st (.st 26) (.t 2) (.t 6)), none⟩]) .ret)))
def r_town : List ARes := [(.c 2 (.st 26))]
theorem s_town : slimF Tryz.prog Tryz.f35 = some (c_town, r_town) := by kernel_rfl
def c_tsamC : ACode := (.seq (.reg none [⟨(some 2), (.box 34 31 (.t 0)), none⟩, ⟨(some 3), (.box 34 31 (.t 1)), none⟩, ⟨(some 4), (.mv (.c (.bool false))), none⟩]) (.seq (.reg none [⟨(some 5), (.fa 21 (.t 2)), none⟩, ⟨(some 6), (.ld (.st 4) (.t 5)), none⟩, ⟨(some 7), (.fa 21 (.t 3)), none⟩, ⟨(some 8), (.ld (.st 4) (.t 7)), none⟩, ⟨(some 9), (.eqS false [(0, ((.one (.str [])), 0)), (1, ((.one (.str [])), 0)), (2, ((.one (.int .i64 0)), 1)), (3, ((.one (.str [])), 0))] (.t 6) (.t 8)), none⟩, ⟨(some 10), (.mv (.t 9)), none⟩, ⟨(some 11), (.fa 25 (.t 2)), (some (10, true))⟩, ⟨(some 12), (.ld (.st 4) (.t 11)), (some (10, true))⟩, ⟨(some 13), (.fa 25 (.t 3)), (some (10, true))⟩, ⟨(some 14), (.ld (.st 4) (.t 13)), (some (10, true))⟩, ⟨(some 15), (.eqS false [(0, ((.one (.str [])), 0)), (1, ((.one (.str [])), 0)), (2, ((.one (.int .i64 0)), 1)), (3, ((.one (.str [])), 0))] (.t 12) (.t 14)), (some (10, true))⟩, ⟨(some 16), (.pick (.t 10) (.t 15) (.c (.bool false))), none⟩, ⟨(some 17), (.mv (.t 16)), none⟩, ⟨(some 18), (.fa 30 (.t 2)), (some (17, true))⟩, ⟨(some 19), (.ld (.one (.str [])) (.t 18)), (some (17, true))⟩, ⟨(some 20), (.fa 30 (.t 3)), (some (17, true))⟩, ⟨(some 21), (.ld (.one (.str [])) (.t 20)), (some (17, true))⟩, ⟨(some 22), (.bin .eql (.t 19) (.t 21)), (some (17, true))⟩, ⟨(some 23), (.pick (.t 17) (.t 22) (.c (.bool false))), none⟩, ⟨(some 24), (.mv (.t 23)), none⟩, ⟨(some 25), (.fa 29 (.t 2)), (some (24, true))⟩, ⟨(some 26), (.ld (.one (.con (.slice none 0 0))) (.t 25)), (some (24, true))⟩, ⟨(some 27), (.fa 29 (.t 3)), (some (24, true))⟩, ⟨(some 28), (.ld (.one (.con (.slice none 0 0))) (.t 27)), (some (24, true))⟩, ⟨(some 29), (.call 85 [(.t 26), (.t 28)]), (some (24, true))⟩, ⟨(some 30), (.pick (.t 24) (.t 29) (.c (.bool false))), none⟩, ⟨(some 4), (.mv (.t 30)), none⟩]) .ret))
def r_tsamC : List ARes := [(.t 4)]
theorem s_tsamC : slimF Tryz.prog Tryz.f55 = some (c_tsamC, r_tsamC) := by kernel_rfl
def c_tsamH : ACode := (.seq (.reg none [⟨(some 2), (.box 40 26 (.t 0)), none⟩, ⟨(some 3), (.box 40 26 (.t 1)), none⟩, ⟨(some 4), (.mv (.c (.bool false))), none⟩]) (.seq (.reg none [⟨(some 5), (.fa 20 (.t 2)), none⟩, ⟨(some 6), (.ld (.one (.str [])) (.t 5)), none⟩, ⟨(some 7), (.fa 20 (.t 3)), none⟩, ⟨(some 8), (.ld (.one (.str [])) (.t 7)), none⟩, ⟨(some 9), (.bin .eql (.t 6) (.t 8)), none⟩, ⟨(some 10), (.mv (.t 9)), none⟩, ⟨(some 11), (.fa 21 (.t 2)), (some (10, true))⟩, ⟨(some 12), (.ld (.one (.int .i64 0)) (.t 11)), (some (10, true))⟩, ⟨(some 13), (.fa 21 (.t 3)), (some (10, true))⟩, ⟨(some 14), (.ld (.one (.int .i64 0)) (.t 13)), (some (10, true))⟩, ⟨(some 15), (.bin .eql (.t 12) (.t 14)), (some (10, true))⟩, ⟨(some 16), (.pick (.t 10) (.t 15) (.c (.bool false))), none⟩, ⟨(some 17), (.mv (.t 16)), none⟩, ⟨(some 18), (.fa 22 (.t 2)), (some (17, true))⟩, ⟨(some 19), (.ld (.one (.int .i64 0)) (.t 18)), (some (17, true))⟩, ⟨(some 20), (.fa 22 (.t 3)), (some (17, true))⟩, ⟨(some 21), (.ld (.one (.int .i64 0)) (.t 20)), (some (17, true))⟩, ⟨(some 22), (.bin .eql (.t 19) (.t 21)), (some (17, true))⟩, ⟨(some 23), (.pick (.t 17) (.t 22) (.c (.bool false))), none⟩, ⟨(some 24), (.mv (.t 23)), none⟩, ⟨(some 25), (.fa 25 (.t 2)), (some (24, true))⟩, ⟨(some 26), (.ld (.one (.str [])) (.t 25)), (some (24, true))⟩, ⟨(some 27), (.fa 25 (.t 3)), (some (24, true))⟩, ⟨(some 28), (.ld (.one (.str [])) (.t 27)), (some (24, true))⟩, ⟨(some 29), (.bin .eql (.t 26) (.t 28)), (some (24, true))⟩, ⟨(some 30), (.pick (.t 24) (.t 29) (.c (.bool false))), none⟩, ⟨(some 31), (.mv (.t 30)), none⟩, ⟨(some 32), (.fa 23 (.t 2)), (some (31, true))⟩, ⟨(some 33), (.ld (.one (.con (.slice none 0 0))) (.t 32)), (some (31, true))⟩, ⟨(some 34), (.fa 23 (.t 3)), (some (31, true))⟩, ⟨(some 35), (.ld (.one (.con (.slice none 0 0))) (.t 34)), (some (31, true))⟩, ⟨(some 36), (.call 96 [(.t 33), (.t 35)]), (some (31, true))⟩, ⟨(some 37), (.pick (.t 31) (.t 36) (.c (.bool false))), none⟩, ⟨(some 4), (.mv (.t 37)), none⟩]) .ret))
def r_tsamH : List ARes := [(.t 4)]
theorem s_tsamH : slimF Tryz.prog Tryz.f66 = some (c_tsamH, r_tsamH) := by kernel_rfl
def b_seqC_0 : ACode := (.seq (.reg none [⟨(some 14), (.bin .lss (.t 13) (.t 12)), none⟩]) (.seq (.cond (.t 14) .skip (.exit 0)) (.seq (.block 1 (.seq (.reg none [⟨(some 15), (.mv (.t 13)), none⟩, ⟨(some 5), (.mv (.t 15)), none⟩]) (.seq (.reg (some [(0, false), (1, false), (2, false), (3, false), (4, false), (5, false), (6, false), (7, false), (8, true)]) [⟨(some 16), (.mv (.t 0)), none⟩, ⟨(some 17), (.mv (.t 5)), none⟩, ⟨(some 18), (.ia 2 (.agg [(1, (.str [])), (1, (.str []))]) (.t 16) (.t 17)), none⟩, ⟨(some 19), (.ld (.st 2) (.t 18)), none⟩, ⟨(some 20), (.mv (.t 1)), none⟩, ⟨(some 21), (.mv (.t 5)), none⟩, ⟨(some 22), (.ia 2 (.agg [(1, (.str [])), (1, (.str []))]) (.t 20) (.t 21)), none⟩, ⟨(some 23), (.ld (.st 2) (.t 22)), none⟩, ⟨(some 24), (.eqS true [(0, ((.one (.str [])), 0)), (1, ((.one (.str [])), 0))] (.t 19) (.t 23)), none⟩]) (.cond (.t 24) (.seq (.reg none [⟨(some 4), (.mv (.c (.bool false))), none⟩]) .ret) .skip)))) (.reg none [⟨(some 25), (.bin .add (.t 13) (.c (.int .i64 1))), none⟩, ⟨(some 13), (.mv (.t 25)), none⟩]))))
def t_seqC_0 : ACode := (.seq (.reg none [⟨(some 4), (.mv (.c (.bool true))), none⟩]) .ret)
def c_seqC : ACode := (.seq (.reg none [⟨(some 4), (.mv (.c (.bool false))), none⟩]) (.seq (.seq (.reg none [⟨(some 6), (.mv (.t 0)), none⟩, ⟨(some 7), (.len none false (.t 6)), none⟩, ⟨(some 8), (.mv (.t 1)), none⟩, ⟨(some 9), (.len none false (.t 8)), none⟩, ⟨(some 10), (.bin .neq (.t 7) (.t 9)), none⟩]) (.cond (.t 10) (.seq (.reg none [⟨(some 4), (.mv (.c (.bool false))), none⟩]) .ret) .skip)) (.seq (.seq (.reg none [⟨(some 11), (.mv (.t 0)), none⟩, ⟨(some 12), (.len none false (.t 11)), none⟩, ⟨(some 13), (.mv (.c (.int .i64 0))), none⟩]) (.block 0 (.loop b_seqC_0))) t_seqC_0)))
def r_seqC : List ARes := [(.t 4)]
theorem s_seqC : slimF Tryz.prog Tryz.f85 = some (c_seqC, r_seqC) := by kernel_rfl
def b_seqH_0 : ACode := (.seq (.reg none [⟨(some 14), (.bin .lss (.t 13) (.t 12)), none⟩]) (.seq (.cond (.t 14) .skip (.exit 0)) (.seq (.block 1 (.seq (.reg none [⟨(some 15), (.mv (.t 13)), none⟩, ⟨(some 5), (.mv (.t 15)), none⟩]) (.seq (.reg (some [(0, false), (1, false), (2, false), (3, false), (4, false), (5, false), (6, false), (7, false), (8, true)]) [⟨(some 16), (.mv (.t 0)), none⟩, ⟨(some 17), (.mv (.t 5)), none⟩, ⟨(some 18), (.ia 2 (.agg [(1, (.str [])), (1, (.str []))]) (.t 16) (.t 17)), none⟩, ⟨(some 19), (.ld (.st 2) (.t 18)), none⟩, ⟨(some 20), (.mv (.t 1)), none⟩, ⟨(some 21), (.mv (.t 5)), none⟩, ⟨(some 22), (.ia 2 (.agg [(1, (.str [])), (1, (.str []))]) (.t 20) (.t 21)), none⟩, ⟨(some 23), (.ld (.st 2) (.t 22)), none⟩, ⟨(some 24), (.eqS true [(0, ((.one (.str [])), 0)), (1, ((.one (.str [])), 0))] (.t 19) (.t 23)), none⟩]) (.cond (.t 24) (.seq (.reg none [⟨(some 4), (.mv (.c (.bool false))), none⟩]) .ret) .skip)))) (.reg none [⟨(some 25), (.bin .add (.t 13) (.c (.int .i64 1))), none⟩, ⟨(some 13), (.mv (.t 25)), none⟩]))))
def t_seqH_0 : ACode := (.seq (.reg none [⟨(some 4), (.mv (.c (.bool true))), none⟩]) .ret)
def c_seqH : ACode := (.seq (.reg none [⟨(some 4), (.mv (.c (.bool false))), none⟩]) (.seq (.seq (.reg none [⟨(some 6), (.mv (.t 0)), none⟩, ⟨(some 7), (.len none false (.t 6)), none⟩, ⟨(some 8), (.mv (.t 1)), none⟩, ⟨(some 9), (.len none false (.t 8)), none⟩, ⟨(some 10), (.bin .neq (.t 7) (.t 9)), none⟩]) (.cond (.t 10) (.seq (.reg none [⟨(some 4), (.mv (.c (.bool false))), none⟩]) .ret) .skip)) (.seq (.seq (.reg none [⟨(some 11), (.mv (.t 0)), none⟩, ⟨(some 12), (.len none false (.t 11)), none⟩, ⟨(some 13), (.mv (.c (.int .i64 0))), none⟩]) (.block 0 (.loop b_seqH_0))) t_seqH_0)))
def r_seqH : List ARes := [(.t 4)]
theorem s_seqH : slimF Tryz.prog Tryz.f96 = some (c_seqH, r_seqH) := by kernel_rfl
def b_twords_0 : ACode := (.seq (.reg none [⟨(some 24), (.bin .lss (.t 23) (.t 22)), none⟩]) (.seq (.cond (.t 24) .skip (.exit 0)) (.seq (.block 1 (.seq (.reg none [⟨(some 25), (.ia 2 (.agg [(1, (.str [])), (1, (.str []))]) (.t 21) (.t 23)), none⟩, ⟨(some 26), (.ld (.st 2) (.t 25)), none⟩, ⟨(some 5), (.new 78 [(1, (.str [])), (1, (.str []))]), none⟩, ⟨none, (.st (.st 2) (.t 5) (.t 26)), none⟩]) (.reg (some [(0, false), (1, false), (2, false), (3, false), (4, false), (5, false), (6, true), (7, true), (8, true)]) [⟨(some 27), (.fa 0 (.t 5)), none⟩, ⟨(some 28), (.ld (.one (.str [])) (.t 27)), none⟩, ⟨(some 29), (.bin .add (.t 28) (.c (.str [32]))), none⟩, ⟨(some 30), (.fa 1 (.t 5)), none⟩, ⟨(some 31), (.ld (.one (.str [])) (.t 30)), none⟩, ⟨(some 32), (.call 52 [(.t 31), (.c (.str [10])), (.c (.str [10, 32]))]), none⟩, ⟨(some 33), (.bin .add (.t 29) (.t 32)), none⟩, ⟨(some 34), (.bin .add (.t 33) (.c (.str [10]))), none⟩, ⟨(some 35), (.call 50 [(.t 3), (.t 34)]), none⟩]))) (.reg none [⟨(some 36), (.bin .add (.t 23) (.c (.int .i64 1))), none⟩, ⟨(some 23), (.mv (.t 36)), none⟩]))))
def t_twords_0 : ACode := (.seq (.reg none [⟨(some 37), (.call 53 [(.t 3)]), none⟩, ⟨(some 2), (.mv (.t 37)), none⟩]) .ret)
def c_twords : ACode := (.seq (.reg none [⟨(some 1), (.box 40 26 (.t 0)), none⟩, ⟨(some 2), (.mv (.c (.str []))), none⟩]) (.seq (.reg none [⟨(some 3), (.new 97 [(1, (.con (.pointer none))), (1, (.con (.slice none 0 0)))]), none⟩]) (.seq (.reg (some [(0, false), (1, false), (2, false), (3, false), (4, false), (5, false), (6, false), (7, false), (5, false), (5, false), (10, false), (11, true), (12, true), (13, true)]) [⟨(some 6), (.fa 20 (.t 1)), none⟩, ⟨(some 7), (.ld (.one (.str [])) (.t 6)), none⟩, ⟨(some 8), (.bin .add (.t 7) (.c (.str [10]))), none⟩, ⟨(some 9), (.fa 21 (.t 1)), none⟩, ⟨(some 10), (.ld (.one (.int .i64 0)) (.t 9)), none⟩, ⟨(some 11), (.call 62 [(.t 10)]), none⟩, ⟨(some 12), (.bin .add (.t 8) (.t 11)), none⟩, ⟨(some 13), (.bin .add (.t 12) (.c (.str [32]))), none⟩, ⟨(some 14), (.fa 22 (.t 1)), none⟩, ⟨(some 15), (.ld (.one (.int .i64 0)) (.t 14)), none⟩, ⟨(some 16), (.call 62 [(.t 15)]), none⟩, ⟨(some 17), (.bin .add (.t 13) (.t 16)), none⟩, ⟨(some 18), (.bin .add (.t 17) (.c (.str [10]))), none⟩, ⟨(some 19), (.call 50 [(.t 3), (.t 18)]), none⟩]) (.seq (.seq (.reg none [⟨(some 20), (.fa 23 (.t 1)), none⟩, ⟨(some 21), (.ld (.one (.con (.slice none 0 0))) (.t 20)), none⟩, ⟨(some 22), (.len none false (.t 21)), none⟩, ⟨(some 23), (.mv (.c (.int .i64 0))), none⟩]) (.block 0 (.loop b_twords_0))) t_twords_0))))
def r_twords : List ARes := [(.t 2)]
theorem s_twords : slimF Tryz.prog Tryz.f67 = some (c_twords, r_twords) := by kernel_rfl
def c_tnum : ACode := (.seq (.reg none [⟨(some 2), (.mv (.c (.int .i64 0))), none⟩]) (.seq (.reg none [⟨(some 8), (.mv (.t 0)), none⟩, ⟨(some 9), (.call 105 [(.t 8), (.c (.str [45]))]), none⟩, ⟨(some 7), (.mv (.t 9)), none⟩, ⟨(some 10), (.ext (.t 7) 0), none⟩, ⟨(some 11), (.ext (.t 7) 1), none⟩, ⟨(some 3), (.mv (.t 10)), none⟩, ⟨(some 4), (.mv (.t 11)), none⟩]) (.seq (.reg none [⟨(some 13), (.mv (.t 3)), none⟩, ⟨(some 14), (.call 106 [(.t 13)]), none⟩, ⟨(some 12), (.mv (.t 14)), none⟩, ⟨(some 15), (.ext (.t 12) 0), none⟩, ⟨(some 16), (.ext (.t 12) 1), none⟩, ⟨(some 5), (.mv (.t 15)), none⟩, ⟨(some 6), (.mv (.t 16)), none⟩]) (.seq (.seq (.reg none [⟨(some 17), (.mv (.t 4)), none⟩]) (.cond (.t 17) (.seq (.reg none [⟨(some 18), (.mv (.t 5)), none⟩, ⟨(some 19), (.un .neg (.t 18)), none⟩, ⟨(some 2), (.mv (.t 19)), none⟩]) .ret) .skip)) (.seq (.reg none [⟨(some 20), (.mv (.t 5)), none⟩, ⟨(some 2), (.mv (.t 20)), none⟩]) .ret)))))
def r_tnum : List ARes := [(.t 2)]
theorem s_tnum : slimF Tryz.prog Tryz.f83 = some (c_tnum, r_tnum) := by kernel_rfl
def b_tspk_0 : ACode := (.seq (.seq (.reg none [⟨(some 49), (.mv (.t 7)), none⟩, ⟨(some 50), (.bin .neq (.t 49) (.c (.str []))), none⟩]) (.cond (.t 50) .skip (.exit 0))) (.block 1 (.seq (.reg none [⟨(some 52), (.mv (.t 7)), none⟩, ⟨(some 53), (.call 82 [(.t 52), (.c (.str [10]))]), none⟩, ⟨(some 51), (.mv (.t 53)), none⟩, ⟨(some 54), (.ext (.t 51) 0), none⟩, ⟨(some 55), (.ext (.t 51) 1), none⟩, ⟨(some 56), (.ext (.t 51) 2), none⟩, ⟨(some 15), (.mv (.t 54)), none⟩, ⟨(some 16), (.mv (.t 55)), none⟩, ⟨(some 17), (.mv (.t 56)), none⟩]) (.seq (.seq (.reg none [⟨(some 57), (.fa 23 (.t 14)), none⟩, ⟨(some 58), (.ld (.one (.con (.slice none 0 0))) (.t 57)), none⟩, ⟨(some 59), (.len none false (.t 58)), none⟩, ⟨(some 60), (.bin .sub (.t 59) (.c (.int .i64 1))), none⟩, ⟨(some 18), (.mv (.t 60)), none⟩]) (.seq (.reg none [⟨(some 61), (.mv (.t 18)), none⟩, ⟨(some 62), (.bin .geq (.t 61) (.c (.int .i64 0))), none⟩, ⟨(some 63), (.mv (.t 62)), none⟩, ⟨(some 64), (.mv (.t 15)), (some (63, true))⟩, ⟨(some 65), (.call 84 [(.t 64), (.c (.str [32]))]), (some (63, true))⟩, ⟨(some 66), (.pick (.t 63) (.t 65) (.c (.bool false))), none⟩]) (.cond (.t 66) (.reg (some [(0, false), (1, false), (2, false), (3, false), (4, false), (5, false), (6, false), (7, false), (8, false), (9, true), (10, true), (11, true), (12, true)]) [⟨(some 67), (.fa 23 (.t 14)), none⟩, ⟨(some 68), (.ld (.one (.con (.slice none 0 0))) (.t 67)), none⟩, ⟨(some 69), (.mv (.t 18)), none⟩, ⟨(some 70), (.ia 2 (.agg [(1, (.str [])), (1, (.str []))]) (.t 68) (.t 69)), none⟩, ⟨(some 71), (.fa 1 (.t 70)), none⟩, ⟨(some 72), (.ld (.one (.str [])) (.t 71)), none⟩, ⟨(some 73), (.mv (.t 15)), none⟩, ⟨(some 74), (.slS (.t 73) (some (.c (.int .i64 1))) none), none⟩, ⟨(some 75), (.bin .add (.c (.str [10])) (.t 74)), none⟩, ⟨(some 76), (.bin .add (.t 72) (.t 75)), none⟩, ⟨(some 77), (.ia 2 (.agg [(1, (.str [])), (1, (.str []))]) (.t 68) (.t 69)), none⟩, ⟨(some 78), (.fa 1 (.t 77)), none⟩, ⟨none, (.st (.one (.str [])) (.t 78) (.t 76)), none⟩]) (.seq (.reg none [⟨(some 80), (.mv (.t 15)), none⟩, ⟨(some 81), (.call 82 [(.t 80), (.c (.str [32]))]), none⟩, ⟨(some 79), (.mv (.t 81)), none⟩, ⟨(some 82), (.ext (.t 79) 0), none⟩, ⟨(some 83), (.ext (.t 79) 1), none⟩, ⟨(some 84), (.ext (.t 79) 2), none⟩, ⟨(some 19), (.mv (.t 82)), none⟩, ⟨(some 20), (.mv (.t 83)), none⟩, ⟨(some 21), (.mv (.t 84)), none⟩]) (.reg none [⟨(some 85), (.fa 23 (.t 14)), none⟩, ⟨(some 86), (.ld (.one (.con (.slice none 0 0))) (.t 85)), none⟩, ⟨(some 87), (.mv (.t 19)), none⟩, ⟨(some 88), (.mv (.t 20)), none⟩, ⟨(some 89), (.build [(1, (.str [])), (1, (.str []))] [(0, (1, (.t 87))), (1, (1, (.t 88)))]), none⟩, ⟨(some 90), (.buildSl 78 2 [(.t 89)]), none⟩, ⟨(some 91), (.app 78 2 32 (.t 86) (.t 90)), none⟩, ⟨(some 92), (.fa 23 (.t 14)), none⟩, ⟨none, (.st (.one (.con (.slice none 0 0))) (.t 92) (.t 91)), none⟩]))))) (.reg none [⟨(some 93), (.mv (.t 16)), none⟩, ⟨(some 7), (.mv (.t 93)), none⟩])))))
def t_tspk_0 : ACode := (.seq (.reg none [⟨(some 95), (.ld (.st 26) (.t 14)), none⟩, ⟨(some 96), (.call 36 [(.t 95)]), none⟩, ⟨(some 94), (.mv (.t 96)), none⟩, ⟨(some 97), (.ext (.t 94) 0), none⟩, ⟨(some 98), (.ext (.t 94) 1), none⟩, ⟨(some 22), (.mv (.t 97)), none⟩, ⟨(some 23), (.mv (.t 98)), none⟩]) (.seq (.reg (some [(0, false), (1, false), (2, false), (3, false), (4, false), (5, false), (6, false), (7, false), (8, false), (9, false), (10, false), (11, false), (12, false), (13, false), (14, false), (14, false), (16, false), (17, false), (18, true), (19, true)]) [⟨(some 99), (.ld (.st 26) (.t 14)), none⟩, ⟨(some 100), (.mv (.t 8)), none⟩, ⟨(some 101), (.mv (.t 100)), none⟩, ⟨(some 102), (.mv (.t 10)), (some (101, true))⟩, ⟨(some 103), (.pick (.t 101) (.t 102) (.c (.bool false))), none⟩, ⟨(some 104), (.mv (.t 103)), none⟩, ⟨(some 105), (.mv (.t 13)), (some (104, true))⟩, ⟨(some 106), (.pick (.t 104) (.t 105) (.c (.bool false))), none⟩, ⟨(some 107), (.mv (.t 106)), none⟩, ⟨(some 108), (.mv (.t 23)), (some (107, true))⟩, ⟨(some 109), (.bin .eql (.t 108) (.c (.int .i64 0))), (some (107, true))⟩, ⟨(some 110), (.pick (.t 107) (.t 109) (.c (.bool false))), none⟩, ⟨(some 111), (.mv (.t 110)), none⟩, ⟨(some 112), (.ld (.st 26) (.t 14)), (some (111, true))⟩, ⟨(some 113), (.call 67 [(.t 112)]), (some (111, true))⟩, ⟨(some 114), (.mv (.t 0)), (some (111, true))⟩, ⟨(some 115), (.bin .eql (.t 113) (.t 114)), (some (111, true))⟩, ⟨(some 116), (.pick (.t 111) (.t 115) (.c (.bool false))), none⟩, ⟨none, (.st (.st 26) (.t 4) (.t 99)), none⟩, ⟨(some 5), (.mv (.t 116)), none⟩]) .ret))
def c_tspk : ACode := (.seq (.reg none [⟨(some 4), (.new 40 [(20, (.blob (List.replicate 20 (.int .u8 0)))), (1, (.str [])), (1, (.int .i64 0)), (1, (.int .i64 0)), (1, (.con (.slice none 0 0))), (1, (.con (.slice none 0 0))), (1, (.str []))]), none⟩, ⟨(some 5), (.mv (.c (.bool false))), none⟩]) (.seq (.reg none [⟨(some 25), (.mv (.t 0)), none⟩, ⟨(some 26), (.call 82 [(.t 25), (.c (.str [10]))]), none⟩, ⟨(some 24), (.mv (.t 26)), none⟩, ⟨(some 27), (.ext (.t 24) 0), none⟩, ⟨(some 28), (.ext (.t 24) 1), none⟩, ⟨(some 29), (.ext (.t 24) 2), none⟩, ⟨(some 6), (.mv (.t 27)), none⟩, ⟨(some 7), (.mv (.t 28)), none⟩, ⟨(some 8), (.mv (.t 29)), none⟩]) (.seq (.reg none [⟨(some 31), (.mv (.t 7)), none⟩, ⟨(some 32), (.call 82 [(.t 31), (.c (.str [10]))]), none⟩, ⟨(some 30), (.mv (.t 32)), none⟩, ⟨(some 33), (.ext (.t 30) 0), none⟩, ⟨(some 34), (.ext (.t 30) 1), none⟩, ⟨(some 35), (.ext (.t 30) 2), none⟩, ⟨(some 9), (.mv (.t 33)), none⟩, ⟨(some 7), (.mv (.t 34)), none⟩, ⟨(some 10), (.mv (.t 35)), none⟩]) (.seq (.reg none [⟨(some 37), (.mv (.t 9)), none⟩, ⟨(some 38), (.call 82 [(.t 37), (.c (.str [32]))]), none⟩, ⟨(some 36), (.mv (.t 38)), none⟩, ⟨(some 39), (.ext (.t 36) 0), none⟩, ⟨(some 40), (.ext (.t 36) 1), none⟩, ⟨(some 41), (.ext (.t 36) 2), none⟩, ⟨(some 11), (.mv (.t 39)), none⟩, ⟨(some 12), (.mv (.t 40)), none⟩, ⟨(some 13), (.mv (.t 41)), none⟩]) (.seq (.reg none [⟨(some 42), (.mv (.t 6)), none⟩, ⟨(some 43), (.mv (.t 11)), none⟩, ⟨(some 44), (.call 83 [(.t 43)]), none⟩, ⟨(some 45), (.mv (.t 12)), none⟩, ⟨(some 46), (.call 83 [(.t 45)]), none⟩, ⟨(some 47), (.mv (.t 1)), none⟩, ⟨(some 48), (.build [(20, (.blob (List.replicate 20 (.int .u8 0)))), (1, (.str [])), (1, (.int .i64 0)), (1, (.int .i64 0)), (1, (.con (.slice none 0 0))), (1, (.con (.slice none 0 0))), (1, (.str []))] [(20, (1, (.t 42))), (21, (1, (.t 44))), (22, (1, (.t 46))), (25, (1, (.t 47)))]), none⟩, ⟨(some 14), (.new 40 [(20, (.blob (List.replicate 20 (.int .u8 0)))), (1, (.str [])), (1, (.int .i64 0)), (1, (.int .i64 0)), (1, (.con (.slice none 0 0))), (1, (.con (.slice none 0 0))), (1, (.str []))]), none⟩, ⟨none, (.st (.st 26) (.t 14) (.t 48)), none⟩]) (.seq (.block 0 (.loop b_tspk_0)) t_tspk_0))))))
def r_tspk : List ARes := [(.c 4 (.st 26)), (.t 5)]
theorem s_tspk : slimF Tryz.prog Tryz.f54 = some (c_tspk, r_tspk) := by kernel_rfl
def c_tplain : ACode := (.seq (.reg none [⟨(some 1), (.box 34 31 (.t 0)), none⟩, ⟨(some 2), (.new 40 [(20, (.blob (List.replicate 20 (.int .u8 0)))), (1, (.str [])), (1, (.int .i64 0)), (1, (.int .i64 0)), (1, (.con (.slice none 0 0))), (1, (.con (.slice none 0 0))), (1, (.str []))]), none⟩]) (.seq (.reg none [⟨(some 6), (.ld (.st 31) (.t 1)), none⟩, ⟨(some 7), (.call 31 [(.t 6)]), none⟩, ⟨(some 3), (.new 34 [(20, (.blob (List.replicate 20 (.int .u8 0)))), (1, (.con (.slice none 0 0))), (1, (.str [])), (1, (.str [])), (1, (.int .i64 0)), (1, (.str [])), (1, (.str [])), (1, (.str [])), (1, (.int .i64 0)), (1, (.str [])), (1, (.con (.slice none 0 0))), (1, (.str []))]), none⟩, ⟨none, (.st (.st 31) (.t 3) (.t 7)), none⟩]) (.seq (.reg none [⟨(some 8), (.fa 30 (.t 3)), none⟩, ⟨none, (.st (.one (.str [])) (.t 8) (.c (.str []))), none⟩]) (.seq (.reg none [⟨(some 10), (.ld (.st 31) (.t 3)), none⟩, ⟨(some 11), (.call 29 [(.t 10)]), none⟩, ⟨(some 9), (.mv (.t 11)), none⟩, ⟨(some 12), (.ext (.t 9) 0), none⟩, ⟨(some 13), (.ext (.t 9) 1), none⟩, ⟨(some 4), (.mv (.t 12)), none⟩, ⟨(some 5), (.mv (.t 13)), none⟩]) (.seq (.reg none [⟨(some 14), (.fa 21 (.t 1)), none⟩, ⟨(some 15), (.fa 0 (.t 14)), none⟩, ⟨(some 16), (.ld (.one (.str [])) (.t 15)), none⟩, ⟨(some 17), (.bin .add (.t 16) (.c (.str [32, 60]))), none⟩, ⟨(some 18), (.fa 21 (.t 1)), none⟩, ⟨(some 19), (.fa 1 (.t 18)), none⟩, ⟨(some 20), (.ld (.one (.str [])) (.t 19)), none⟩, ⟨(some 21), (.bin .add (.t 17) (.t 20)), none⟩, ⟨(some 22), (.bin .add (.t 21) (.c (.str [62]))), none⟩, ⟨(some 23), (.fa 21 (.t 1)), none⟩, ⟨(some 24), (.fa 2 (.t 23)), none⟩, ⟨(some 25), (.ld (.one (.int .i64 0)) (.t 24)), none⟩, ⟨(some 26), (.fa 30 (.t 1)), none⟩, ⟨(some 27), (.ld (.one (.str [])) (.t 26)), none⟩, ⟨(some 28), (.mv (.t 4)), none⟩, ⟨(some 29), (.toStr (.t 28)), none⟩, ⟨(some 30), (.build [(1, (.str [])), (1, (.str []))] [(0, (1, (.c (.str [103, 105, 116])))), (1, (1, (.t 29)))]), none⟩, ⟨(some 31), (.buildSl 78 2 [(.t 30)]), none⟩, ⟨(some 32), (.build [(20, (.blob (List.replicate 20 (.int .u8 0)))), (1, (.str [])), (1, (.int .i64 0)), (1, (.int .i64 0)), (1, (.con (.slice none 0 0))), (1, (.con (.slice none 0 0))), (1, (.str []))] [(20, (1, (.t 22))), (21, (1, (.t 25))), (25, (1, (.t 27))), (23, (1, (.t 31)))]), none⟩, ⟨none, (.st (.st 26) (.t 2) (.t 32)), none⟩]) .ret)))))
def r_tplain : List ARes := [(.c 2 (.st 26))]
theorem s_tplain : slimF Tryz.prog Tryz.f56 = some (c_tplain, r_tplain) := by kernel_rfl
def c_tof : ACode := (.seq (.reg none [⟨(some 1), (.box 34 31 (.t 0)), none⟩, ⟨(some 2), (.new 40 [(20, (.blob (List.replicate 20 (.int .u8 0)))), (1, (.str [])), (1, (.int .i64 0)), (1, (.int .i64 0)), (1, (.con (.slice none 0 0))), (1, (.con (.slice none 0 0))), (1, (.str []))]), none⟩]) (.seq (.seq (.reg none [⟨(some 5), (.fa 29 (.t 1)), none⟩, ⟨(some 6), (.ld (.one (.con (.slice none 0 0))) (.t 5)), none⟩, ⟨(some 7), (.len none false (.t 6)), none⟩, ⟨(some 8), (.bin .eql (.t 7) (.c (.int .i64 1))), none⟩, ⟨(some 9), (.mv (.t 8)), none⟩, ⟨(some 10), (.fa 29 (.t 1)), (some (9, true))⟩, ⟨(some 11), (.ld (.one (.con (.slice none 0 0))) (.t 10)), (some (9, true))⟩, ⟨(some 12), (.ia 2 (.agg [(1, (.str [])), (1, (.str []))]) (.t 11) (.c (.int .i64 0))), (some (9, true))⟩, ⟨(some 13), (.fa 0 (.t 12)), (some (9, true))⟩, ⟨(some 14), (.ld (.one (.str [])) (.t 13)), (some (9, true))⟩, ⟨(some 15), (.bin .eql (.t 14) (.c (.str [104, 103]))), (some (9, true))⟩, ⟨(some 16), (.pick (.t 9) (.t 15) (.c (.bool false))), none⟩]) (.cond (.t 16) (.seq (.reg (some [(0, false), (1, false), (2, false), (3, false), (4, false), (5, false), (6, false), (7, false), (8, false), (9, false), (10, false), (11, false), (12, true), (13, true)]) [⟨(some 18), (.fa 29 (.t 1)), none⟩, ⟨(some 19), (.ld (.one (.con (.slice none 0 0))) (.t 18)), none⟩, ⟨(some 20), (.ia 2 (.agg [(1, (.str [])), (1, (.str []))]) (.t 19) (.c (.int .i64 0))), none⟩, ⟨(some 21), (.fa 1 (.t 20)), none⟩, ⟨(some 22), (.ld (.one (.str [])) (.t 21)), none⟩, ⟨(some 23), (.fa 30 (.t 1)), none⟩, ⟨(some 24), (.ld (.one (.str [])) (.t 23)), none⟩, ⟨(some 25), (.callP 54 [(.t 22), (.t 24)]), none⟩, ⟨(some 17), (.mv (.t 25)), none⟩, ⟨(some 26), (.ext (.t 17) 0), none⟩, ⟨(some 27), (.ext (.t 17) 1), none⟩, ⟨(some 3), (.new 40 [(20, (.blob (List.replicate 20 (.int .u8 0)))), (1, (.str [])), (1, (.int .i64 0)), (1, (.int .i64 0)), (1, (.con (.slice none 0 0))), (1, (.con (.slice none 0 0))), (1, (.str []))]), none⟩, ⟨none, (.st (.st 26) (.t 3) (.t 26)), none⟩, ⟨(some 4), (.mv (.t 27)), none⟩]) (.seq (.reg (some [(0, true), (1, true), (2, false), (3, false), (3, false), (5, true), (6, true)]) [⟨(some 28), (.mv (.t 4)), none⟩, ⟨(some 29), (.mv (.t 28)), none⟩, ⟨(some 30), (.ld (.st 26) (.t 3)), (some (29, true))⟩, ⟨(some 31), (.call 37 [(.t 30)]), (some (29, true))⟩, ⟨(some 32), (.ld (.st 31) (.t 1)), (some (29, true))⟩, ⟨(some 33), (.call 55 [(.t 31), (.t 32)]), (some (29, true))⟩, ⟨(some 34), (.pick (.t 29) (.t 33) (.c (.bool false))), none⟩]) (.cond (.t 34) (.seq (.reg none [⟨(some 35), (.ld (.st 26) (.t 3)), none⟩, ⟨none, (.st (.st 26) (.t 2) (.t 35)), none⟩]) .ret) .skip))) .skip)) (.seq (.reg none [⟨(some 36), (.ld (.st 31) (.t 1)), none⟩, ⟨(some 37), (.call 56 [(.t 36)]), none⟩, ⟨none, (.st (.st 26) (.t 2) (.t 37)), none⟩]) .ret)))
def r_tof : List ARes := [(.c 2 (.st 26))]
theorem s_tof : slimF Tryz.prog Tryz.f30 = some (c_tof, r_tof) := by kernel_rfl
def c_tback : ACode := (.seq (.reg none [⟨(some 1), (.box 40 26 (.t 0)), none⟩, ⟨(some 2), (.new 34 [(20, (.blob (List.replicate 20 (.int .u8 0)))), (1, (.con (.slice none 0 0))), (1, (.str [])), (1, (.str [])), (1, (.int .i64 0)), (1, (.str [])), (1, (.str [])), (1, (.str [])), (1, (.int .i64 0)), (1, (.str [])), (1, (.con (.slice none 0 0))), (1, (.str []))]), none⟩]) (.seq (.seq (.reg none [⟨(some 6), (.fa 23 (.t 1)), none⟩, ⟨(some 7), (.ld (.one (.con (.slice none 0 0))) (.t 6)), none⟩, ⟨(some 8), (.len none false (.t 7)), none⟩, ⟨(some 9), (.bin .eql (.t 8) (.c (.int .i64 1))), none⟩, ⟨(some 10), (.mv (.t 9)), none⟩, ⟨(some 11), (.fa 23 (.t 1)), (some (10, true))⟩, ⟨(some 12), (.ld (.one (.con (.slice none 0 0))) (.t 11)), (some (10, true))⟩, ⟨(some 13), (.ia 2 (.agg [(1, (.str [])), (1, (.str []))]) (.t 12) (.c (.int .i64 0))), (some (10, true))⟩, ⟨(some 14), (.fa 0 (.t 13)), (some (10, true))⟩, ⟨(some 15), (.ld (.one (.str [])) (.t 14)), (some (10, true))⟩, ⟨(some 16), (.bin .eql (.t 15) (.c (.str [103, 105, 116]))), (some (10, true))⟩, ⟨(some 17), (.pick (.t 10) (.t 16) (.c (.bool false))), none⟩]) (.cond (.t 17) (.seq (.reg none [⟨(some 19), (.fa 23 (.t 1)), none⟩, ⟨(some 20), (.ld (.one (.con (.slice none 0 0))) (.t 19)), none⟩, ⟨(some 21), (.ia 2 (.agg [(1, (.str [])), (1, (.str []))]) (.t 20) (.c (.int .i64 0))), none⟩, ⟨(some 22), (.fa 1 (.t 21)), none⟩, ⟨(some 23), (.ld (.one (.str [])) (.t 22)), none⟩, ⟨(some 24), (.bytes 5 (.t 23)), none⟩, ⟨(some 25), (.call 65 [(.t 24)]), none⟩, ⟨(some 18), (.mv (.t 25)), none⟩, ⟨(some 26), (.ext (.t 18) 0), none⟩, ⟨(some 27), (.ext (.t 18) 1), none⟩, ⟨(some 3), (.new 34 [(20, (.blob (List.replicate 20 (.int .u8 0)))), (1, (.con (.slice none 0 0))), (1, (.str [])), (1, (.str [])), (1, (.int .i64 0)), (1, (.str [])), (1, (.str [])), (1, (.str [])), (1, (.int .i64 0)), (1, (.str [])), (1, (.con (.slice none 0 0))), (1, (.str []))]), none⟩, ⟨none, (.st (.st 31) (.t 3) (.t 26)), none⟩, ⟨(some 4), (.mv (.t 27)), none⟩]) (.seq (.reg none [⟨(some 28), (.mv (.t 4)), none⟩, ⟨(some 29), (.bin .eql (.t 28) (.c (.int .i64 0))), none⟩, ⟨(some 30), (.mv (.t 29)), none⟩, ⟨(some 31), (.fa 0 (.t 3)), (some (30, true))⟩, ⟨(some 32), (.ld (.arr 20) (.t 31)), (some (30, true))⟩, ⟨(some 33), (.buildA (List.replicate 20 (.int .u8 0)) []), (some (30, true))⟩, ⟨(some 34), (.eqA false 20 (.t 32) (.t 33)), (some (30, true))⟩, ⟨(some 35), (.pick (.t 30) (.t 34) (.c (.bool false))), none⟩, ⟨(some 36), (.mv (.t 35)), none⟩, ⟨(some 37), (.fa 20 (.t 3)), (some (36, true))⟩, ⟨(some 38), (.ld (.one (.con (.slice none 0 0))) (.t 37)), (some (36, true))⟩, ⟨(some 39), (.len none false (.t 38)), (some (36, true))⟩, ⟨(some 40), (.bin .eql (.t 39) (.c (.int .i64 0))), (some (36, true))⟩, ⟨(some 41), (.pick (.t 36) (.t 40) (.c (.bool false))), none⟩, ⟨(some 42), (.mv (.t 41)), none⟩, ⟨(some 43), (.fa 30 (.t 3)), (some (42, true))⟩, ⟨(some 44), (.ld (.one (.str [])) (.t 43)), (some (42, true))⟩, ⟨(some 45), (.bin .eql (.t 44) (.c (.str []))), (some (42, true))⟩, ⟨(some 46), (.pick (.t 42) (.t 45) (.c (.bool false))), none⟩]) (.cond (.t 46) (.seq (.reg none [⟨(some 47), (.fa 25 (.t 1)), none⟩, ⟨(some 48), (.ld (.one (.str [])) (.t 47)), none⟩, ⟨(some 49), (.fa 30 (.t 3)), none⟩, ⟨none, (.st (.one (.str [])) (.t 49) (.t 48)), none⟩]) (.seq (.reg (some [(0, false), (1, false), (1, false), (3, true)]) [⟨(some 50), (.ld (.st 31) (.t 3)), none⟩, ⟨(some 51), (.call 30 [(.t 50)]), none⟩, ⟨(some 52), (.ld (.st 26) (.t 1)), none⟩, ⟨(some 53), (.call 66 [(.t 51), (.t 52)]), none⟩]) (.cond (.t 53) (.seq (.reg none [⟨(some 54), (.ld (.st 31) (.t 3)), none⟩, ⟨none, (.st (.st 31) (.t 2) (.t 54)), none⟩]) .ret) .skip))) .skip))) .skip)) (.seq (.reg none [⟨(some 55), (.fa 21 (.t 1)), none⟩, ⟨(some 56), (.ld (.one (.int .i64 0)) (.t 55)), none⟩, ⟨(some 57), (.build [(1, (.str [])), (1, (.str [])), (1, (.int .i64 0)), (1, (.str []))] [(0, (1, (.c (.str [104, 103])))), (1, (1, (.c (.str [104, 103])))), (2, (1, (.t 56))), (3, (1, (.c (.str [43, 48, 48, 48, 48]))))]), none⟩, ⟨(some 5), (.new 31 [(1, (.str [])), (1, (.str [])), (1, (.int .i64 0)), (1, (.str []))]), none⟩, ⟨none, (.st (.st 4) (.t 5) (.t 57)), none⟩]) (.seq (.reg (some [(0, false), (1, false), (2, false), (3, false), (4, false), (5, false), (6, false), (7, false), (8, true), (9, true)]) [⟨(some 58), (.ld (.st 4) (.t 5)), none⟩, ⟨(some 59), (.ld (.st 4) (.t 5)), none⟩, ⟨(some 60), (.fa 25 (.t 1)), none⟩, ⟨(some 61), (.ld (.one (.str [])) (.t 60)), none⟩, ⟨(some 62), (.ld (.st 26) (.t 1)), none⟩, ⟨(some 63), (.call 67 [(.t 62)]), none⟩, ⟨(some 64), (.build [(1, (.str [])), (1, (.str []))] [(0, (1, (.c (.str [104, 103])))), (1, (1, (.t 63)))]), none⟩, ⟨(some 65), (.buildSl 69 2 [(.t 64)]), none⟩, ⟨(some 66), (.build [(20, (.blob (List.replicate 20 (.int .u8 0)))), (1, (.con (.slice none 0 0))), (1, (.str [])), (1, (.str [])), (1, (.int .i64 0)), (1, (.str [])), (1, (.str [])), (1, (.str [])), (1, (.int .i64 0)), (1, (.str [])), (1, (.con (.slice none 0 0))), (1, (.str []))] [(21, (4, (.t 58))), (25, (4, (.t 59))), (30, (1, (.t 61))), (29, (1, (.t 65)))]), none⟩, ⟨none, (.st (.st 31) (.t 2) (.t 66)), none⟩]) .ret))))
def r_tback : List ARes := [(.c 2 (.st 31))]
theorem s_tback : slimF Tryz.prog Tryz.f37 = some (c_tback, r_tback) := by kernel_rfl
def c_tchg : ACode := (.seq (.reg none [⟨(some 1), (.box 34 31 (.t 0)), none⟩, ⟨(some 2), (.new 40 [(20, (.blob (List.replicate 20 (.int .u8 0)))), (1, (.str [])), (1, (.int .i64 0)), (1, (.int .i64 0)), (1, (.con (.slice none 0 0))), (1, (.con (.slice none 0 0))), (1, (.str []))]), none⟩, ⟨(some 3), (.mv (.c (.int .i64 0))), none⟩]) (.seq (.seq (.reg none [⟨(some 7), (.ld (.st 31) (.t 1)), none⟩, ⟨(some 8), (.call 29 [(.t 7)]), none⟩, ⟨(some 6), (.mv (.t 8)), none⟩, ⟨(some 9), (.ext (.t 6) 0), none⟩, ⟨(some 10), (.ext (.t 6) 1), none⟩, ⟨(some 4), (.mv (.t 9)), none⟩, ⟨(some 5), (.mv (.t 10)), none⟩]) (.seq (.reg none [⟨(some 11), (.mv (.t 5)), none⟩, ⟨(some 12), (.bin .neq (.t 11) (.c (.int .i64 0))), none⟩]) (.cond (.t 12) (.seq (.reg none [⟨(some 13), (.build [(20, (.blob (List.replicate 20 (.int .u8 0)))), (1, (.str [])), (1, (.int .i64 0)), (1, (.int .i64 0)), (1, (.con (.slice none 0 0))), (1, (.con (.slice none 0 0))), (1, (.str []))] []), none⟩, ⟨none, (.st (.st 26) (.t 2) (.t 13)), none⟩, ⟨(some 3), (.mv (.c (.int .i64 4))), none⟩]) .ret) .skip))) (.seq (.reg none [⟨(some 14), (.ld (.st 31) (.t 1)), none⟩, ⟨(some 15), (.call 31 [(.t 14)]), none⟩, ⟨(some 16), (.call 30 [(.t 15)]), none⟩, ⟨none, (.st (.st 26) (.t 2) (.t 16)), none⟩, ⟨(some 3), (.mv (.c (.int .i64 0))), none⟩]) .ret)))
def r_tchg : List ARes := [(.c 2 (.st 26)), (.t 3)]
theorem s_tchg : slimF Tryz.prog Tryz.f11 = some (c_tchg, r_tchg) := by kernel_rfl
def c_tcom : ACode := (.seq (.reg none [⟨(some 1), (.box 40 26 (.t 0)), none⟩, ⟨(some 2), (.new 34 [(20, (.blob (List.replicate 20 (.int .u8 0)))), (1, (.con (.slice none 0 0))), (1, (.str [])), (1, (.str [])), (1, (.int .i64 0)), (1, (.str [])), (1, (.str [])), (1, (.str [])), (1, (.int .i64 0)), (1, (.str [])), (1, (.con (.slice none 0 0))), (1, (.str []))]), none⟩, ⟨(some 3), (.mv (.c (.int .i64 0))), none⟩]) (.seq (.reg none [⟨(some 6), (.ld (.st 26) (.t 1)), none⟩, ⟨(some 7), (.call 35 [(.t 6)]), none⟩, ⟨none, (.st (.st 26) (.t 1) (.t 7)), none⟩]) (.seq (.seq (.reg none [⟨(some 9), (.ld (.st 26) (.t 1)), none⟩, ⟨(some 10), (.call 36 [(.t 9)]), none⟩, ⟨(some 8), (.mv (.t 10)), none⟩, ⟨(some 11), (.ext (.t 8) 0), none⟩, ⟨(some 12), (.ext (.t 8) 1), none⟩, ⟨(some 4), (.mv (.t 11)), none⟩, ⟨(some 5), (.mv (.t 12)), none⟩]) (.seq (.reg none [⟨(some 13), (.mv (.t 5)), none⟩, ⟨(some 14), (.bin .neq (.t 13) (.c (.int .i64 0))), none⟩]) (.cond (.t 14) (.seq (.reg none [⟨(some 15), (.build [(20, (.blob (List.replicate 20 (.int .u8 0)))), (1, (.con (.slice none 0 0))), (1, (.str [])), (1, (.str [])), (1, (.int .i64 0)), (1, (.str [])), (1, (.str [])), (1, (.str [])), (1, (.int .i64 0)), (1, (.str [])), (1, (.con (.slice none 0 0))), (1, (.str []))] []), none⟩, ⟨none, (.st (.st 31) (.t 2) (.t 15)), none⟩, ⟨(some 3), (.mv (.c (.int .i64 4))), none⟩]) .ret) .skip))) (.seq (.reg none [⟨(some 16), (.ld (.st 26) (.t 1)), none⟩, ⟨(some 17), (.call 37 [(.t 16)]), none⟩, ⟨none, (.st (.st 31) (.t 2) (.t 17)), none⟩, ⟨(some 3), (.mv (.c (.int .i64 0))), none⟩]) .ret))))
def r_tcom : List ARes := [(.c 2 (.st 31)), (.t 3)]
theorem s_tcom : slimF Tryz.prog Tryz.f19 = some (c_tcom, r_tcom) := by kernel_rfl
end Go.Proofs.YtgaehhechonegaaGreatDoor
