import Derived.Test.YtlkaaoekbmegkaaGreatDoorQFRCom5
import Derived.Test.YtlkaaoekbmegkaaGreatDoorQArgs
import Derived.WideKeyArr2
import Derived.Test.YtlkaaoekbmegkaaGreatDoorQAMS
import Derived.ChangeSame
import Derived.ChangeMaps5
import Derived.OpenShut
import Derived.Lib.SmallJoins
import Derived.Test.YtlkaaoekbmegkaaGreatDoorQFCom6
namespace Go.Proofs.YtlkaaoekbmegkaaGreatDoor
set_option linter.all false
open Go.RowKit
open Go.Lib (index hasPrefix cut indexAny itoa decDigits)
def linesA : List UInt8 → List UInt8 → List (List UInt8)
  | one, [] => [one]
  | one, c :: s => if c = 10 then one :: linesA [] s else linesA (one ++ [c]) s
theorem linesA_hit : ∀ (a one b : List UInt8), (10 : UInt8) ∉ a → linesA one (a ++ 10 :: b) = (one ++ a) :: linesA [] b
  | [], one, b, _ => by rw [List.nil_append, linesA, if_pos rfl, List.append_nil]
  | c :: a, one, b, h => by
    have h1 : c ≠ 10 := fun e => h (by rw [e]; exact List.mem_cons_self ..)
    have h2 : (10 : UInt8) ∉ a := fun e => h (List.mem_cons_of_mem _ e)
    rw [List.cons_append, linesA, if_neg h1, linesA_hit a _ b h2, List.append_assoc]; rfl
theorem linesA_cut (w x r : List UInt8) (h1 : (10 : UInt8) ∉ w) (h2 : (10 : UInt8) ∉ x) : linesA [] (w ++ (x ++ 10 :: r)) = (w ++ x) :: linesA [] r := by
  rw [← List.append_assoc, linesA_hit _ _ _ (by rw [List.mem_append]; rintro (h | h); exact h1 h; exact h2 h), List.nil_append]
theorem linesA_ne : ∀ (s one : List UInt8), linesA one s ≠ []
  | [], one => by simp [linesA]
  | c :: s, one => by
    rw [linesA]; split
    · simp
    · exact linesA_ne s _
def joinN : List (List UInt8) → List UInt8
  | [] => []
  | [l] => l
  | l :: k :: ls => l ++ 10 :: joinN (k :: ls)
theorem joinN_cons (l : List UInt8) {ls : List (List UInt8)} (h : ls ≠ []) : joinN (l :: ls) = l ++ 10 :: joinN ls := by
  cases ls with
  | nil => exact absurd rfl h
  | cons k ls => rfl
theorem join_lines : ∀ (s one : List UInt8), joinN (linesA one s) = one ++ s
  | [], one => by simp [linesA, joinN]
  | c :: s, one => by
    rw [linesA]; split
    · rename_i h
      rw [joinN_cons _ (linesA_ne _ _), join_lines s [], h]; rfl
    · rw [join_lines s _, List.append_assoc]; rfl
theorem linesA_len : ∀ (s one : List UInt8), (linesA one s).length ≤ s.length + 1
  | [], one => by simp [linesA]
  | c :: s, one => by
    rw [linesA]; split
    · have := linesA_len s []; simp only [List.length_cons]; omega
    · have := linesA_len s (one ++ [c]); simp only [List.length_cons]; omega
theorem linesA_le : ∀ (s one l : List UInt8), l ∈ linesA one s → l.length ≤ one.length + s.length
  | [], one, l, h => by rw [linesA, List.mem_singleton] at h; rw [h]; simp
  | c :: s, one, l, h => by
    rw [linesA] at h
    split at h
    · rcases List.mem_cons.1 h with rfl | h
      · omega
      · have := linesA_le s [] l h; simp only [List.length_cons, List.length_nil] at this ⊢; omega
    · have := linesA_le s _ l h; simp only [List.length_append, List.length_cons, List.length_nil] at this ⊢; omega
def gParents : List (List UInt8) → List (List UInt8) × List (List UInt8)
  | [] => ([], [])
  | l :: ls => if frontL l parW = [] then ([], l :: ls) else (rOut (frontL l parW) :: (gParents ls).1, (gParents ls).2)
def cont1 (acc : List ExL) (v : List UInt8) : List ExL := acc.set (acc.length - 1) ((acc.getD (acc.length - 1) ([], [])).1, (acc.getD (acc.length - 1) ([], [])).2 ++ [10] ++ v)
def gExt : List ExL → List (List UInt8) → List ExL × List (List UInt8)
  | acc, [] => (acc, [])
  | acc, l :: ls => if l = [] then (acc, l :: ls) else
      if l.head? = some 32 ∧ acc ≠ [] then gExt (cont1 acc (l.drop 1)) ls else gExt (acc ++ [((cut l [32]).1, (cut l [32]).2.1)]) ls
noncomputable def gWho (w : List UInt8) : List (List UInt8) → WhoL
  | [] => who0
  | l :: _ => guessW (frontL l w)
noncomputable def guessC (b : List UInt8) : ComL :=
  ⟨rOut (frontL ((linesA [] b).headD []) treW), (gParents ((linesA [] b).drop 1)).1, gWho autW (gParents ((linesA [] b).drop 1)).2,
    gWho comW ((gParents ((linesA [] b).drop 1)).2.drop 1), (gExt [] ((gParents ((linesA [] b).drop 1)).2.drop 2)).1,
    joinN ((gExt [] ((gParents ((linesA [] b).drop 1)).2.drop 2)).2.drop 1)⟩
theorem frontL_app (w x : List UInt8) : frontL (w ++ x) w = x := by
  unfold frontL; rw [if_pos (pre_app w x), List.drop_left]
theorem cont1_app (acc : List ExL) (k w v : List UInt8) : cont1 (acc ++ [(k, w)]) v = acc ++ [(k, w ++ 10 :: v)] := by
  unfold cont1
  have e : (acc ++ [(k, w)]).length - 1 = acc.length := by simp
  rw [e]
  have e2 : (acc ++ [(k, w)]).getD acc.length ([], []) = (k, w) := by simp [List.getD_eq_getElem?_getD]
  rw [e2, List.set_append_right _ _ (Nat.le_refl _), Nat.sub_self, List.set_cons_zero]
  simp
theorem gParents_app : ∀ (ps : List (List UInt8)) (r : List UInt8), (∀ p ∈ ps, p.length = 20) → frontL ((linesA [] r).headD []) parW = [] →
    gParents (linesA [] (ps.flatMap parL ++ r)) = (ps, linesA [] r)
  | [], r, _, h => by
    rw [List.flatMap_nil, List.nil_append]
    cases hl : linesA [] r with
    | nil => exact absurd hl (linesA_ne _ _)
    | cons l ls => rw [hl, List.headD_cons] at h; rw [gParents, if_pos h]
  | p :: ps, r, hp, h => by
    have hl := hp p (List.mem_cons_self ..)
    have h0 := hexL_length p
    rw [List.flatMap_cons, List.append_assoc, parL_shape, linesA_cut _ _ _ (by decide) (hexL_no10 p), gParents, frontL_app,
      if_neg (by intro e; rw [e, hl] at h0; simp at h0), gParents_app ps r (fun q hq => hp q (List.mem_cons_of_mem _ hq)) h, rOut_eq, pOut_hex p hl]
theorem gExt_cont : ∀ (n : Nat) (v w k r : List UInt8) (acc : List ExL), v.length ≤ n → gExt (acc ++ [(k, w)]) (linesA [] (32 :: (sb v ++ 10 :: r))) = gExt (acc ++ [(k, w ++ 10 :: v)]) (linesA [] r) := by
  have step : ∀ (a w k r : List UInt8) (acc : List ExL), (10 : UInt8) ∉ a → gExt (acc ++ [(k, w)]) (linesA [] (32 :: (a ++ 10 :: r))) = gExt (acc ++ [(k, w ++ 10 :: a)]) (linesA [] r) := by
    intro a w k r acc ha
    have e := linesA_cut [32] a r (by decide) ha
    have e : linesA [] (32 :: (a ++ 10 :: r)) = (32 :: a) :: linesA [] r := e
    rw [e, gExt, if_neg (by simp), if_pos ⟨rfl, by simp⟩, show (32 :: a).drop 1 = a from rfl, cont1_app]
  intro n
  induction n with
  | zero =>
    intro v w k r acc hn
    obtain rfl : v = [] := List.eq_nil_of_length_eq_zero (by omega)
    exact step [] w k r acc (by decide)
  | succ n ih =>
    intro v w k r acc hn
    rcases split10 v with h | ⟨a, b, rfl, ha⟩
    · rw [sb_none h]; exact step v w k r acc h
    · simp only [List.length_append, List.length_cons] at hn
      rw [sb_app ha, show (32 :: (a ++ 10 :: 32 :: sb b ++ 10 :: r)) = 32 :: (a ++ 10 :: (32 :: (sb b ++ 10 :: r))) by simp, step a w k _ acc ha, ih b _ k r acc (by omega)]
      simp
theorem gExt_one {x : ExL} {r : List UInt8} {acc : List ExL} (h : extraB x.1 = true) : gExt acc (linesA [] (exL x ++ r)) = gExt (acc ++ [x]) (linesA [] r) := by
  obtain ⟨k, v⟩ := x
  have hk : hasL [32, 10] k = false := by
    unfold extraB at h
    cases g : hasL [32, 10] k
    · rfl
    · rw [g] at h; simp at h
  have k32 : (32 : UInt8) ∉ k := hasL_no hk (by decide)
  have k10 : (10 : UInt8) ∉ k := hasL_no hk (by decide)
  have hk0 : k ≠ [] := by intro e; simp only at h; rw [e] at h; exact absurd h (by decide)
  have step : ∀ (a r : List UInt8), (10 : UInt8) ∉ a → gExt acc (linesA [] (k ++ 32 :: (a ++ 10 :: r))) = gExt (acc ++ [(k, a)]) (linesA [] r) := by
    intro a r ha
    have e := linesA_cut (k ++ [32]) a r (by rw [List.mem_append]; rintro (h | h); exact k10 h; exact absurd h (by decide)) ha
    have e : linesA [] (k ++ 32 :: (a ++ 10 :: r)) = (k ++ 32 :: a) :: linesA [] r := by simpa using e
    have hc : cut (k ++ 32 :: a) [32] = (k, a, true) := cut_1 k32
    have hh : (k ++ 32 :: a).head? ≠ some 32 := by
      cases k with
      | nil => exact absurd rfl hk0
      | cons z k => intro e; injection e with e; exact k32 (by rw [e]; exact List.mem_cons_self ..)
    rw [e, gExt, if_neg (by simp), if_neg (fun q => hh q.1), hc]
  rw [exL_shape]
  simp only
  rcases split10 v with h1 | ⟨a, b, rfl, ha⟩
  · rw [sb_none h1]; exact step v r h1
  · rw [sb_app ha, show k ++ 32 :: (a ++ 10 :: 32 :: sb b ++ 10 :: r) = k ++ 32 :: (a ++ 10 :: (32 :: (sb b ++ 10 :: r))) by simp, step a _ ha, gExt_cont b.length b a k r acc (Nat.le_refl _)]
theorem gExt_app : ∀ (es : List ExL) (m : List UInt8) (acc : List ExL), es.any badE = false → gExt acc (linesA [] (es.flatMap exL ++ 10 :: m)) = (acc ++ es, [] :: linesA [] m)
  | [], m, acc, _ => by
    rw [List.flatMap_nil, List.nil_append, linesA, if_pos rfl, gExt, if_pos rfl, List.append_nil]
  | x :: es, m, acc, h => by
    rw [List.any_cons] at h
    have hb : extraB x.1 = true := by
      cases g : extraB x.1
      · unfold badE at h; rw [g] at h; simp at h
      · rfl
    have hx2 : es.any badE = false := by
      cases g : es.any badE
      · rfl
      · rw [g] at h; simp at h
    rw [List.flatMap_cons, List.append_assoc, gExt_one hb, gExt_app es m _ hx2]
    simp
theorem guess_body {c : ComL} (h : rightC c = true) (h20 : c.tree.length = 20) (hp : ∀ p ∈ c.parents, p.length = 20) : guessC (bodyC c) = c := by
  obtain ⟨h1, h2, h3⟩ := rightC_parts h
  generalize hs : bodyC c = s
  rw [bodyC_shape] at hs
  obtain ⟨r4, e4⟩ : ∃ r, r = c.extras.flatMap exL ++ 10 :: c.message := ⟨_, rfl⟩
  obtain ⟨r3, e3⟩ : ∃ r, r = comW ++ (textW c.committer ++ 10 :: r4) := ⟨_, rfl⟩
  obtain ⟨r2, e2⟩ : ∃ r, r = autW ++ (textW c.author ++ 10 :: r3) := ⟨_, rfl⟩
  obtain ⟨r1, e1⟩ : ∃ r, r = c.parents.flatMap parL ++ r2 := ⟨_, rfl⟩
  rw [← e4, ← e3, ← e2, ← e1] at hs
  have l0 : linesA [] s = (treW ++ hexL c.tree) :: linesA [] r1 := by rw [← hs]; exact linesA_cut _ _ _ (by decide) (hexL_no10 _)
  have l2 : linesA [] r2 = (autW ++ textW c.author) :: linesA [] r3 := by rw [e2]; exact linesA_cut _ _ _ (by decide) (textW_no10 h1)
  have l3 : linesA [] r3 = (comW ++ textW c.committer) :: linesA [] r4 := by rw [e3]; exact linesA_cut _ _ _ (by decide) (textW_no10 h2)
  have lp : gParents (linesA [] r1) = (c.parents, linesA [] r2) := by
    rw [e1]
    refine gParents_app c.parents r2 hp ?_
    rw [l2]
    unfold frontL
    rw [List.headD_cons, if_neg]
    intro hq
    obtain ⟨t, ht⟩ := pre_iff.1 hq
    injection ht with ht _; exact absurd ht (by decide)
  have le : gExt [] (linesA [] r4) = (c.extras, [] :: linesA [] c.message) := by rw [e4, gExt_app c.extras c.message [] h3]; rfl
  unfold guessC
  rw [l0]
  simp only [List.headD_cons, List.drop_succ_cons, List.drop_zero]
  rw [lp]
  simp only
  rw [l2]
  simp only [List.drop_succ_cons, List.drop_zero]
  rw [l3]
  simp only [List.drop_succ_cons, List.drop_zero, gWho]
  rw [le]
  simp only [List.drop_succ_cons, List.drop_zero]
  rw [frontL_app, frontL_app, frontL_app, guess_text h1, guess_text h2, rOut_eq, pOut_hex _ h20, join_lines, List.nil_append]
theorem guessC_len (b : List UInt8) : (guessC b).tree.length = 20 ∧ ∀ p ∈ (guessC b).parents, p.length = 20 := by
  have hr : ∀ l, (rOut l).length = 20 := fun l => by rw [rOut_eq]; exact pOut_len l
  refine ⟨hr _, ?_⟩
  have : ∀ ls, ∀ p ∈ (gParents ls).1, p.length = 20 := by
    intro ls
    induction ls with
    | nil => intro p hp; cases hp
    | cons l ls ih =>
      rw [gParents]; split
      · intro p hp; cases hp
      · intro p hp
        rcases List.mem_cons.1 hp with rfl | hp
        · exact hr _
        · exact ih p hp
  exact this _
theorem par_iff (b : List UInt8) : parB11 b = (rightC (guessC b) && decide (bodyC (guessC b) = b)) := by
  obtain ⟨g1, g2⟩ := guessC_len b
  rw [Bool.eq_iff_iff, Bool.and_eq_true, decide_eq_true_eq]
  constructor
  · intro h
    obtain ⟨h1, h2⟩ := body_com h
    obtain ⟨h3, h4⟩ := parC11_len b
    have e := guess_body h1 h3 h4
    rw [h2] at e
    rw [e]; exact ⟨h1, h2⟩
  · rintro ⟨h1, h2⟩
    have := (com_body h1 g1 g2).1
    rwa [h2] at this
theorem par_eq {b : List UInt8} (h : parB11 b = true) : guessC b = parC11 b := by
  obtain ⟨h1, h2⟩ := body_com h
  obtain ⟨h3, h4⟩ := parC11_len b
  have e := guess_body h1 h3 h4
  rwa [h2] at e
noncomputable def guessT (L : List (List UInt8)) : TagL :=
  ⟨rOut (frontL (L.getD 0 []) objW), kindN (frontL (L.getD 1 []) typW), frontL (L.getD 2 []) tagW, guessW (frontL (L.getD 3 []) tgrW), joinN (L.drop 5)⟩
theorem guess_tag {t : TagL} (h : rightT t = true) (h20 : t.object.length = 20) : 6 ≤ (linesA [] (bodyT t)).length ∧ guessT (linesA [] (bodyT t)) = t := by
  obtain ⟨h1, h2, h3, h4⟩ := rightT_parts h
  have hl : linesA [] (bodyT t) = (objW ++ hexL t.object) :: (typW ++ wordL t.kind) :: (tagW ++ t.name) :: (tgrW ++ textW t.tagger) :: [] :: linesA [] t.message := by
    rw [bodyT_shape, linesA_cut _ _ _ (by decide) (hexL_no10 _), linesA_cut _ _ _ (by decide) (wordL_no10 _), linesA_cut _ _ _ (by decide) h4, linesA_cut _ _ _ (by decide) (textW_no10 h1)]
    rfl
  have hn : 1 ≤ (linesA [] t.message).length := by
    cases hm : linesA [] t.message with
    | nil => exact absurd hm (linesA_ne _ _)
    | cons x y => simp
  rw [hl]
  refine ⟨by simp only [List.length_cons]; omega, ?_⟩
  unfold guessT
  simp only [List.getD_cons_zero, List.getD_cons_succ, List.drop_succ_cons, List.drop_zero]
  rw [frontL_app, frontL_app, frontL_app, frontL_app, guess_text h1, rOut_eq, pOut_hex _ h20, word_kind h2, join_lines, List.nil_append]
theorem part_iff (b : List UInt8) : parBT11 b = (decide (6 ≤ (linesA [] b).length) && (rightT (guessT (linesA [] b)) && decide (bodyT (guessT (linesA [] b)) = b))) := by
  have g1 : (guessT (linesA [] b)).object.length = 20 := by show (rOut _).length = 20; rw [rOut_eq]; exact pOut_len _
  rw [Bool.eq_iff_iff, Bool.and_eq_true, Bool.and_eq_true, decide_eq_true_eq, decide_eq_true_eq]
  constructor
  · intro h
    obtain ⟨h1, h2⟩ := body_tag h
    have e := guess_tag h1 (parT11_len b)
    rw [h2] at e
    rw [e.2]; exact ⟨e.1, h1, h2⟩
  · rintro ⟨-, h1, h2⟩
    have := (tag_body h1 g1).1
    rwa [h2] at this
theorem part_eq {b : List UInt8} (h : parBT11 b = true) : guessT (linesA [] b) = parT11 b := by
  obtain ⟨h1, h2⟩ := body_tag h
  have e := (guess_tag h1 (parT11_len b)).2
  rwa [h2] at e
end Go.Proofs.YtlkaaoekbmegkaaGreatDoor
namespace Go.Proofs.YtlkaaoekbmegkaaGreatDoor
set_option linter.all false
open Go.RowKit
def rlinesS : Spec := fun xs hp => match xs, hp with
  | [.str s], [] => some ⟨.own 0 (linesA [] s).length, [.row 9 1 (linesA [] s).length ((linesA [] s).map AV.str)], s.length ≤ 1000000000⟩
  | _, _ => none
theorem take_drop1 {α : Type} (l : List α) {i : Nat} (h : i < l.length) : (l.take (i + 1)).drop i = [l[i]] := by
  rw [List.take_add_one, List.getElem?_eq_getElem h, Option.toList_some, List.drop_append, List.length_take, List.drop_of_length_le (by rw [List.length_take]; omega)]
  rw [show i - min i l.length = 0 by omega]; rfl
theorem rlines_ok : FnOk Tryz.prog 54 rlinesS := by
  refine fn_slim2 Tryz.func54 s_rlines (Φ := phiL []) phi_nil ?_
  intro xs hp r hs hp'
  unfold rlinesS at hs
  split at hs
  · injection hs with hs; subst hs
    rename_i s
    have p1 : s.length ≤ 1000000000 := hp'
    refine ⟨len_le (by kernel_rfl), ?_⟩
    generalize hL : linesA [] s = L at *
    simp only [c_rlines, go_sem, Nat.reduceDiv, Nat.reduceMod, ↓reduceIte, Nat.reduceEqDiff, Nat.reduceBEq, Nat.reduceSub, Nat.reduceLT, Nat.reduceAdd, Nat.reduceLeDiff, reduceCtorEq, Int.reduceEq, Int.reduceNe, Int.reduceLT, Int.reduceLE, Int.reduceToNat]
    refine loop2P [(3, 9, 1)] [0, 3, 4, 5] [0] (fun q : Nat × List (List UInt8) × List UInt8 => ⟨[(0, .str s), (3, .own 0 q.2.1.length), (4, .str q.2.2), (5, .int .i64 (q.1 : Int))], [.row 9 1 q.2.1.length (q.2.1.map AV.str)]⟩)
      (fun q => q.1 ≤ s.length ∧ q.2.1 ++ linesA q.2.2 (s.drop q.1) = L ∧ q.2.1.length ≤ q.1 ∧ q.2.2.length ≤ q.1) (fun q => s.length - q.1) (0, [], []) rfl ⟨Nat.zero_le _, by simpa using hL, Nat.le_refl _, Nat.zero_le _⟩ ⟨rfl, by rfl⟩ (fun q hq R hR => ?_)
    obtain ⟨i, l, one⟩ := q
    simp only at hq hR ⊢
    obtain ⟨h1, h2, h3, h4⟩ := hq
    have hlen : ∀ o, (l.map AV.str ++ [AV.str o]).length = l.length + 1 := by intro o; simp
    by_cases hil : i < s.length
    · have c1 : decide ((i : Int) < (s.length : Int)) = true := decide_eq_true (by omega)
      have hl := at8_lit hil
      have hd : s.drop i = s[i] :: s.drop (i + 1) := List.drop_eq_getElem_cons hil
      have e1 : ((i : Int) + 1).toNat = i + 1 := by omega
      rw [hd, linesA] at h2
      by_cases he : s[i] = 10
      · have c2 : decide (at8 s i = 10) = true := decide_eq_true (by rw [hl, he]; rfl)
        rw [if_pos he] at h2
        simp only [b_rlines_0, c1, c2, Int.toNat_natCast, go_sem, Nat.reduceDiv, Nat.reduceMod, ↓reduceIte, Nat.reduceEqDiff, Nat.reduceBEq, Nat.reduceSub, Nat.reduceLT, Nat.reduceAdd, Nat.reduceLeDiff, reduceCtorEq, Int.reduceEq, Int.reduceNe, Int.reduceLT, Int.reduceLE, Int.reduceToNat]
        refine ⟨⟨by omega, by omega⟩, ⟨by rw [hlen]; (first | omega | (simp only [lenOk, bytesOk, inI, IntKind.bits, List.length_append, Bs_len, List.length_cons, List.length_nil, List.length_map, List.length_take, List.length_drop, List.length_replicate]; omega)), by rw [hlen]; (first | omega | (simp only [lenOk, bytesOk, inI, IntKind.bits, List.length_append, Bs_len, List.length_cons, List.length_nil, List.length_map, List.length_take, List.length_drop, List.length_replicate]; omega))⟩, ⟨by omega, by omega⟩, hR _ (i + 1, l ++ [one], []) ⟨by simp only; omega, by simpa using h2, by simp only [List.length_append, List.length_cons, List.length_nil]; omega, Nat.zero_le _⟩ (by simp only; omega) ?_⟩
        simp only [List.length_append, List.length_cons, List.length_nil, List.map_append, List.map_cons, List.map_nil]
        rfl
      · have c2 : decide (at8 s i = 10) = false := decide_eq_false (by
          rw [hl]; intro h; apply he; exact UInt8.toNat_inj.1 (by rw [show ((10 : UInt8).toNat) = 10 from rfl]; omega))
        rw [if_neg he] at h2
        have ht := take_drop1 s hil
        simp only [b_rlines_0, c1, c2, e1, ht, Int.toNat_natCast, go_sem, Nat.reduceDiv, Nat.reduceMod, ↓reduceIte, Nat.reduceEqDiff, Nat.reduceBEq, Nat.reduceSub, Nat.reduceLT, Nat.reduceAdd, Nat.reduceLeDiff, reduceCtorEq, Int.reduceEq, Int.reduceNe, Int.reduceLT, Int.reduceLE, Int.reduceToNat]
        refine ⟨⟨by omega, by omega⟩, ⟨by omega, by omega⟩, ⟨by omega, by omega⟩, by (first | omega | (simp only [lenOk, bytesOk, inI, IntKind.bits, List.length_append, Bs_len, List.length_cons, List.length_nil, List.length_map, List.length_take, List.length_drop, List.length_replicate]; omega)), ⟨by omega, by omega⟩, hR _ (i + 1, l, one ++ [s[i]]) ⟨by simp only; omega, h2, by simp only; omega, by simp only [List.length_append, List.length_cons, List.length_nil]; omega⟩ (by simp only; omega) rfl⟩
    · have c1 : decide ((i : Int) < (s.length : Int)) = false := decide_eq_false (by omega)
      rw [List.drop_of_length_le (by omega), linesA] at h2
      subst h2
      simp only [b_rlines_0, t_rlines_0, r_rlines, c1, go_sem, Nat.reduceDiv, Nat.reduceMod, ↓reduceIte, Nat.reduceEqDiff, Nat.reduceBEq, Nat.reduceSub, Nat.reduceLT, Nat.reduceAdd, Nat.reduceLeDiff, reduceCtorEq, Int.reduceEq, Int.reduceNe, Int.reduceLT, Int.reduceLE, Int.reduceToNat]
      refine ⟨⟨by rw [hlen]; (first | omega | (simp only [lenOk, bytesOk, inI, IntKind.bits, List.length_append, Bs_len, List.length_cons, List.length_nil, List.length_map, List.length_take, List.length_drop, List.length_replicate]; omega)), by rw [hlen]; (first | omega | (simp only [lenOk, bytesOk, inI, IntKind.bits, List.length_append, Bs_len, List.length_cons, List.length_nil, List.length_map, List.length_take, List.length_drop, List.length_replicate]; omega))⟩, ?_⟩
      simp
  · cases hs
end Go.Proofs.YtlkaaoekbmegkaaGreatDoor
namespace Go.Proofs.YtlkaaoekbmegkaaGreatDoor
set_option linter.all false
open Go.RowKit
open Go.Lib (index hasPrefix cut indexAny itoa)
def wExt (es : List ExL) : Nat := (es.map fun x => x.1.length + x.2.length + 2).sum
def wLin (ls : List (List UInt8)) : Nat := (ls.map fun l => l.length + 2).sum
theorem wExt_app (a b : List ExL) : wExt (a ++ b) = wExt a + wExt b := by simp [wExt]
theorem wLin_drop (ls : List (List UInt8)) (n : Nat) : wLin (ls.drop n) ≤ wLin ls := by
  induction ls generalizing n with
  | nil => simp
  | cons l ls ih =>
    cases n with
    | zero => simp
    | succ n => have := ih n; simp only [List.drop_succ_cons, wLin, List.map_cons, List.sum_cons] at this ⊢; omega
theorem wLin_lines : ∀ (s one : List UInt8), wLin (linesA one s) ≤ one.length + 3 * s.length + 2
  | [], one => by simp [linesA, wLin]
  | c :: s, one => by
    rw [linesA]; split
    · have := wLin_lines s []
      simp only [wLin, List.map_cons, List.sum_cons, List.length_cons, List.length_nil] at this ⊢; omega
    · have := wLin_lines s (one ++ [c])
      simp only [List.length_append, List.length_cons, List.length_nil] at this ⊢; omega
theorem cont1_w (acc : List ExL) (v : List UInt8) (h : acc ≠ []) : wExt (cont1 acc v) = wExt acc + v.length + 1 ∧ (cont1 acc v).length = acc.length := by
  obtain ⟨a, x, rfl⟩ : ∃ a x, acc = a ++ [x] := ⟨acc.dropLast, acc.getLast h, (List.dropLast_concat_getLast h).symm⟩
  obtain ⟨k, w⟩ := x
  rw [cont1_app, wExt_app, wExt_app]
  have e : ∀ u : List UInt8, wExt [(k, u)] = k.length + u.length + 2 := fun u => by simp [wExt]
  rw [e, e]
  refine ⟨?_, ?_⟩ <;>
  simp only [List.length_append, List.length_cons, List.length_nil]
  omega
theorem gExt_w : ∀ (ls : List (List UInt8)) (acc : List ExL), wExt (gExt acc ls).1 ≤ wExt acc + wLin ls ∧ (gExt acc ls).1.length ≤ acc.length + ls.length ∧ (gExt acc ls).2.length ≤ ls.length ∧ ∃ n, (gExt acc ls).2 = ls.drop n
  | [], acc => ⟨by simp [gExt], by simp [gExt], by simp [gExt], 0, rfl⟩
  | l :: ls, acc => by
    rw [gExt]
    split
    · exact ⟨Nat.le_add_right _ _, Nat.le_add_right _ _, Nat.le_refl _, 0, rfl⟩
    · rename_i hl
      have hl1 : 1 ≤ l.length := by cases l with | nil => exact absurd rfl hl | cons _ _ => simp
      split
      · rename_i h
        obtain ⟨h1, h2, h3, n, h4⟩ := gExt_w ls (cont1 acc (l.drop 1))
        obtain ⟨h5, h6⟩ := cont1_w acc (l.drop 1) h.2
        rw [h5, List.length_drop] at h1
        rw [h6] at h2
        refine ⟨?_, by simp only [List.length_cons]; omega, by simp only [List.length_cons]; omega, n + 1, h4⟩
        simp only [wLin, List.map_cons, List.sum_cons] at h1 ⊢; omega
      · obtain ⟨h1, h2, h3, n, h4⟩ := gExt_w ls (acc ++ [((cut l [32]).1, (cut l [32]).2.1)])
        have hc := cut_len2 l
        rw [wExt_app] at h1
        simp only [List.length_append, List.length_cons, List.length_nil] at h2
        refine ⟨?_, by simp only [List.length_cons]; omega, by simp only [List.length_cons]; omega, n + 1, h4⟩
        simp only [wExt, wLin, List.map_cons, List.map_nil, List.sum_cons, List.sum_nil] at h1 ⊢; omega
where
  cut_len2 (l : List UInt8) : (cut l [32]).1.length + (cut l [32]).2.1.length ≤ l.length := by
    cases h : (cut l [32]).2.2 with
    | true =>
      have := congrArg List.length (cut_t h)
      simp only [List.length_append, List.length_cons, List.length_nil] at this; omega
    | false =>
      by_cases hm : (32 : UInt8) ∈ l
      · obtain ⟨a, b, rfl, ha⟩ := mem_split hm
        rw [cut_1 ha] at h; cases h
      · rw [cut_1n hm]; simp
end Go.Proofs.YtlkaaoekbmegkaaGreatDoor
namespace Go.Proofs.YtlkaaoekbmegkaaGreatDoor
set_option linter.all false
open Go.RowKit
open Go.Lib (index hasPrefix cut indexAny itoa decDigits)
theorem guessW_len (s : List UInt8) : (guessW s).name.length ≤ s.length ∧ (guessW s).mail.length ≤ s.length ∧ (guessW s).zone.length ≤ s.length ∧ 0 ≤ (guessW s).time ∧ (guessW s).time < 4611686018427387904 := by
  have hA1 := cutl1 s [60]
  have hA2 := cutl2 s [60]
  have hB1 := cutl1 (cut s [60]).2.1 [62]
  have hB2 := cutl2 (cut s [60]).2.1 [62]
  have hF := frontL_len (cut (cut s [60]).2.1 [62]).2.1 [32]
  have hC2 := cutl2 (frontL (cut (cut s [60]).2.1 [62]).2.1 [32]) [32]
  have hd := decN_lt (cut (frontL (cut (cut s [60]).2.1 [62]).2.1 [32]) [32]).1
  unfold guessW
  simp only [List.length_take]
  omega
end Go.Proofs.YtlkaaoekbmegkaaGreatDoor
namespace Go.Proofs.YtlkaaoekbmegkaaGreatDoor
set_option linter.all false
open Go.RowKit
open Go.Lib (index hasPrefix cut indexAny itoa)
noncomputable def rparR (c : ComL) (ok : Bool) (pr : Prop) : Option Ret := if ok = true then
    some ⟨.tup [.agg (comPs c.tree (.own 0 c.parents.length) c.author c.committer (.own 1 c.extras.length) c.message), .bool true], [.row 22 20 c.parents.length (c.parents.map idAV), .row 74 2 c.extras.length (c.extras.map exV)], pr⟩
  else some ⟨.tup [.agg com0, .bool false], [], pr⟩
noncomputable def rparS : Spec := fun xs hp => match xs, hp with
  | [.str s], [] => rparR (guessC s) (rightC (guessC s) && decide (bodyC (guessC s) = s)) (s.length ≤ 10000)
  | _, _ => none
theorem rparR_pre {c : ComL} {ok : Bool} {pr : Prop} {r : Ret} (h : rparR c ok pr = some r) (hr : r.pre) : pr := by
  unfold rparR at h
  split at h <;> (injection h with h; subst h; exact hr)
noncomputable def phiRpar : Phi := phiL [(47, [], rfrontS), (55, [], rparseS), (20, [], rguessS), (46, [], rcutS), (10, [], rrightS11), (12, [], rprnS), (54, [], rlinesS)]
theorem phiRpar_ok : PhiOk Tryz.prog phiRpar := phi_cons rfront_ok (by kernel_rfl) (phi_cons rparse_ok (by kernel_rfl) (phi_cons rguess_ok (by kernel_rfl) (phi_cons rcut_ok (by kernel_rfl) (phi_cons rright11_ok (by kernel_rfl) (phi_cons rprn_ok (by kernel_rfl) (phi_cons rlines_ok (by kernel_rfl) phi_nil))))))
theorem phiRpar_1 : phiRpar 47 = some ([], rfrontS) := rfl
theorem phiRpar_2 : phiRpar 55 = some ([], rparseS) := rfl
theorem phiRpar_3 : phiRpar 20 = some ([], rguessS) := rfl
theorem phiRpar_4 : phiRpar 46 = some ([], rcutS) := rfl
theorem phiRpar_5 : phiRpar 10 = some ([], rrightS11) := rfl
theorem phiRpar_6 : phiRpar 12 = some ([], rprnS) := rfl
theorem phiRpar_7 : phiRpar 54 = some ([], rlinesS) := rfl
def hpR (L : List (List UInt8)) (t : List UInt8) (ps : List (List UInt8)) (a c : WhoL) (acc : List ExL) (m : List UInt8) : List AObj :=
  [.cells 28 com0, .row 9 1 L.length (L.map AV.str), .cells 28 (comPs t (.own 3 ps.length) a c (.own 4 acc.length) m),
    .row 22 20 ps.length (ps.map idAV), .row 74 2 acc.length (acc.map exV)]
theorem flat_par (ps : List (List UInt8)) (h : ∀ p ∈ ps, p.length = 20) : (ps.flatMap parL).length = 48 * ps.length := by
  induction ps with
  | nil => rfl
  | cons p ps ih =>
    have h1 := h p (List.mem_cons_self ..)
    have h2 := hexL_length p
    rw [List.flatMap_cons, List.length_append, ih fun q hq => h q (List.mem_cons_of_mem _ hq)]
    simp only [parL, List.length_append, List.length_cons, List.length_nil]; omega
theorem flat_ex (es : List ExL) : (es.flatMap exL).length ≤ 3 * wExt es := by
  induction es with
  | nil => simp
  | cons x es ih =>
    have h2 := subst1_len 10 [10, 32] x.2
    rw [List.flatMap_cons, List.length_append]
    simp only [exL, wExt, List.map_cons, List.sum_cons, List.length_append, List.length_cons, List.length_nil] at ih h2 ⊢; omega
theorem mem_w (es : List ExL) (x : ExL) (h : x ∈ es) : x.1.length + x.2.length ≤ wExt es := by
  induction es with
  | nil => cases h
  | cons y es ih =>
    simp only [wExt, List.map_cons, List.sum_cons] at ih ⊢
    rcases List.mem_cons.1 h with rfl | h
    · omega
    · have := ih h; omega
def jn : List UInt8 → List (List UInt8) → List UInt8
  | m, [] => m
  | m, l :: ls => jn (m ++ [10] ++ l) ls
theorem jn_app : ∀ (ls : List (List UInt8)) (a b : List UInt8), jn (a ++ b) ls = a ++ jn b ls
  | [], a, b => rfl
  | l :: ls, a, b => by rw [jn, jn, ← jn_app ls]; simp
theorem join_jn : ∀ (ls : List (List UInt8)) (l : List UInt8), joinN (l :: ls) = jn l ls
  | [], l => rfl
  | k :: ls, l => by
    have := jn_app ls (l ++ [10]) k
    rw [joinN, join_jn ls k, jn, this]; simp
set_option maxHeartbeats 4000000 in
theorem rpar_msg {s : List UInt8} {L : List (List UInt8)} (t : List UInt8) (ps : List (List UInt8)) (a c : WhoL) (es : List ExL) (i : Nat) (hi : i ≤ L.length) (r : Ret) (hs1 : s.length ≤ 10000) (hL : linesA [] s = L)
    (hg : guessC s = ⟨t, ps, a, c, es, joinN (L.drop (i + 1))⟩) {pr : Prop} (hr : rparR (guessC s) (rightC (guessC s) && decide (bodyC (guessC s) = s)) pr = some r)
    (h20 : t.length = 20) (hps : ∀ p ∈ ps, p.length = 20) (hpl : ps.length ≤ 20000) (hel : es.length ≤ 20000) (hew : wExt es ≤ 40000) (ha : a.name.length + a.mail.length + a.zone.length ≤ 40000 ∧ inI a.time) (hc : c.name.length + c.mail.length + c.zone.length ≤ 40000 ∧ inI c.time) (s0 : S2)
    (hk : ent [] [0, 2, 4, 5, 6, 12] [0, 1, 2, 3, 4] (toS s0) = some ⟨[(0, .str s), (2, .ref 0 0 0), (4, .own 1 L.length), (5, .ref 2 0 0), (6, .int .i64 (i : Int)), (12, .int .i64 ((i : Int) + 1))], hpR L t ps a c es []⟩) :
    loopQ2 0 (awp2 phiRpar 0 b_rpar_2) (inQ2 4 (thenQ2 (awp2 phiRpar 0 t_rpar_0 (retQ2 r_rpar 0 r)) (retQ2 r_rpar 0 r))) s0 := by
  have hLl : L.length ≤ s.length + 1 := by have := linesA_len s []; rw [hL] at this; exact this
  have hw := wLin_lines s []
  rw [hL] at hw
  simp only [List.length_nil] at hw
  have hwi := wLin_drop L (i + 1)
  refine loop2P [] [0, 2, 4, 5, 6, 12] [0, 1, 2, 3, 4] (fun q : Nat × List UInt8 => ⟨[(0, .str s), (2, .ref 0 0 0), (4, .own 1 L.length), (5, .ref 2 0 0), (6, .int .i64 (i : Int)), (12, .int .i64 (((i + 1 + q.1 : Nat)) : Int))], hpR L t ps a c es q.2⟩)
    (fun q => i + 1 + q.1 ≤ L.length + 1 ∧ ((q.1 = 0 ∧ q.2 = []) ∨ (0 < q.1 ∧ jn q.2 (L.drop (i + 1 + q.1)) = joinN (L.drop (i + 1)))) ∧ q.2.length + wLin (L.drop (i + 1 + q.1)) ≤ 40000) (fun q => L.length + 1 - (i + 1 + q.1)) (0, []) hk ⟨by simp only; omega, .inl ⟨rfl, rfl⟩, by simp only [List.length_nil, Nat.add_zero]; omega⟩ ⟨rfl, by rfl⟩ (fun q hq R hR => ?_)
  obtain ⟨n, m⟩ := q
  simp only at hq hR ⊢
  obtain ⟨h1, h2, h3⟩ := hq
  by_cases hil : i + 1 + n < L.length
  · have c1 : decide (((i + 1 + n : Nat) : Int) < (L.length : Int)) = true := decide_eq_true (by omega)
    have hget := getD_map AV.str L [] (AV.str []) hil
    have hga : L.getD (i + 1 + n) [] = L[i + 1 + n] := by simp [List.getD_eq_getElem?_getD, List.getElem?_eq_getElem hil]
    have hd : L.drop (i + 1 + n) = L[i + 1 + n] :: L.drop (i + 1 + n + 1) := List.drop_eq_getElem_cons hil
    rw [hd] at h2 h3
    generalize L[i + 1 + n] = l at *
    simp only [wLin, List.map_cons, List.sum_cons] at h3
    rcases h2 with ⟨rfl, rfl⟩ | ⟨h2, h4⟩
    · have c2 : decide ((i : Int) + 1 < ((i + 1 + 0 : Nat) : Int)) = false := decide_eq_false (by omega)
      simp only [b_rpar_2, r_rpar, phiRpar_1, phiRpar_2, phiRpar_3, phiRpar_4, phiRpar_5, phiRpar_6, phiRpar_7, rfrontS, rparseS, rguessS, rcutS, hpR, comPs, com0, who0, c1, c2, hget, hga, Int.toNat_natCast, go_sem, Nat.reduceDiv, Nat.reduceMod, ↓reduceIte, Nat.reduceEqDiff, Nat.reduceBEq, Nat.reduceSub, Nat.reduceLT, Nat.reduceAdd, Nat.reduceLeDiff, reduceCtorEq, Int.reduceEq, Int.reduceNe, Int.reduceLT, Int.reduceLE, Int.reduceToNat]
      refine ⟨⟨by omega, by omega⟩, ⟨by omega, by omega⟩, hil, by (first | omega | (simp only [lenOk, bytesOk, inI, IntKind.bits, List.length_append, Bs_len, List.length_cons, List.length_nil, List.length_map, List.length_take, List.length_drop, List.length_replicate]; omega)), ⟨by omega, by omega⟩, hR _ (1, l) ⟨by simp only; omega, .inr ⟨Nat.one_pos, ?_⟩, ?_⟩ (by simp only; omega) rfl⟩
      · rw [show i + 1 + 0 = i + 1 from rfl] at hd
        rw [hd, join_jn]
      · simp only [List.length_nil] at h3
        show l.length + wLin (L.drop (i + 1 + 0 + 1)) ≤ 40000
        unfold wLin; omega
    · have c2 : decide ((i : Int) + 1 < ((i + 1 + n : Nat) : Int)) = true := decide_eq_true (by omega)
      simp only [b_rpar_2, r_rpar, phiRpar_1, phiRpar_2, phiRpar_3, phiRpar_4, phiRpar_5, phiRpar_6, phiRpar_7, rfrontS, rparseS, rguessS, rcutS, hpR, comPs, com0, who0, c1, c2, hget, hga, Int.toNat_natCast, go_sem, Nat.reduceDiv, Nat.reduceMod, ↓reduceIte, Nat.reduceEqDiff, Nat.reduceBEq, Nat.reduceSub, Nat.reduceLT, Nat.reduceAdd, Nat.reduceLeDiff, reduceCtorEq, Int.reduceEq, Int.reduceNe, Int.reduceLT, Int.reduceLE, Int.reduceToNat]
      refine ⟨⟨by omega, by omega⟩, by (first | omega | (simp only [lenOk, bytesOk, inI, IntKind.bits, List.length_append, Bs_len, List.length_cons, List.length_nil, List.length_map, List.length_take, List.length_drop, List.length_replicate]; omega)), ⟨by omega, by omega⟩, hil, by (first | omega | (simp only [lenOk, bytesOk, inI, IntKind.bits, List.length_append, Bs_len, List.length_cons, List.length_nil, List.length_map, List.length_take, List.length_drop, List.length_replicate]; omega)), ⟨by omega, by omega⟩, hR _ (n + 1, m ++ [10] ++ l) ⟨by simp only; omega, .inr ⟨by omega, ?_⟩, ?_⟩ (by simp only; omega) rfl⟩
      · simp only
        rw [← h4, jn]; rfl
      · show (m ++ [10] ++ l).length + wLin (L.drop (i + 1 + n + 1)) ≤ 40000
        simp only [List.length_append, List.length_cons, List.length_nil]
        unfold wLin; omega
  · have c1 : decide (((i + 1 + n : Nat) : Int) < (L.length : Int)) = false := decide_eq_false (by omega)
    have hm : m = joinN (L.drop (i + 1)) := by
      rcases h2 with ⟨rfl, rfl⟩ | ⟨h2, h4⟩
      · rw [List.drop_of_length_le (by omega)]; rfl
      · rw [List.drop_of_length_le (by omega)] at h4; exact h4
    rw [← hm] at hg
    rw [hg] at hr
    have hfp := flat_par ps hps
    have hfe := flat_ex es
    have hhx := hexL_length t
    cases hri : rightC ⟨t, ps, a, c, es, m⟩ with
    | false =>
      rw [hri, Bool.false_and] at hr
      unfold rparR at hr
      simp only [Bool.false_eq_true, if_false] at hr
      injection hr with hr
      rw [← hr]
      simp only [b_rpar_2, t_rpar_0, r_rpar, phiRpar_1, phiRpar_2, phiRpar_3, phiRpar_4, phiRpar_5, phiRpar_6, phiRpar_7, rfrontS, rparseS, rguessS, rcutS, hpR, comPs, com0, who0, rrightS11, unId_map, unEx_map, unV_U, c1, hri, go_sem, Nat.reduceDiv, Nat.reduceMod, ↓reduceIte, Nat.reduceEqDiff, Nat.reduceBEq, Nat.reduceSub, Nat.reduceLT, Nat.reduceAdd, Nat.reduceLeDiff, reduceCtorEq, Int.reduceEq, Int.reduceNe, Int.reduceLT, Int.reduceLE, Int.reduceToNat]
      exact ⟨⟨.inl trivial, by omega, fun x hx => by have := mem_w es x hx; omega, by omega, by omega⟩, rfl⟩
    | true =>
      rw [hri, Bool.true_and] at hr
      obtain ⟨r1, r2, -⟩ := rightC_parts hri
      have l1 := textW_len r1
      have l2 := textW_len r2
      have hbl : (bodyC ⟨t, ps, a, c, es, m⟩).length ≤ 2000000 := by
        rw [bodyC_shape]
        simp only [List.length_append, List.length_cons, treW, autW, comW, List.length_nil] at l1 l2 ⊢
        omega
      have hsz : sizeOkC ⟨t, ps, a, c, es, m⟩ := ⟨by omega, h20, hps, by simp only; omega, by simp only; omega, fun x hx => by have := mem_w es x hx; omega, by simp only; omega, by simp only; omega⟩
      cases hbb : decide (bodyC ⟨t, ps, a, c, es, m⟩ = s) with
      | false =>
        rw [hbb] at hr
        unfold rparR at hr
        simp only [Bool.false_eq_true, if_false] at hr
        injection hr with hr
        rw [← hr]
        simp only [b_rpar_2, t_rpar_0, r_rpar, phiRpar_1, phiRpar_2, phiRpar_3, phiRpar_4, phiRpar_5, phiRpar_6, phiRpar_7, rfrontS, rparseS, rguessS, rcutS, hpR, comPs, com0, who0, rrightS11, rprnS, unId_map, unEx_map, unV_U, c1, hri, hbb, go_sem, Nat.reduceDiv, Nat.reduceMod, ↓reduceIte, Nat.reduceEqDiff, Nat.reduceBEq, Nat.reduceSub, Nat.reduceLT, Nat.reduceAdd, Nat.reduceLeDiff, reduceCtorEq, Int.reduceEq, Int.reduceNe, Int.reduceLT, Int.reduceLE, Int.reduceToNat]
        refine ⟨⟨.inl trivial, by omega, fun x hx => by have := mem_w es x hx; omega, by omega, by omega⟩, ?_⟩
        first | exact ⟨⟨.inl trivial, .inl trivial, hsz, ha.2, hc.2⟩, rfl⟩ | exact ⟨.inl trivial, .inl trivial, hsz, ha.2, hc.2⟩
      | true =>
        rw [hbb] at hr
        unfold rparR at hr
        simp only [if_true] at hr
        injection hr with hr
        rw [← hr]
        simp only [b_rpar_2, t_rpar_0, r_rpar, phiRpar_1, phiRpar_2, phiRpar_3, phiRpar_4, phiRpar_5, phiRpar_6, phiRpar_7, rfrontS, rparseS, rguessS, rcutS, hpR, comPs, com0, who0, rrightS11, rprnS, unId_map, unEx_map, unV_U, c1, hri, hbb, go_sem, Nat.reduceDiv, Nat.reduceMod, ↓reduceIte, Nat.reduceEqDiff, Nat.reduceBEq, Nat.reduceSub, Nat.reduceLT, Nat.reduceAdd, Nat.reduceLeDiff, reduceCtorEq, Int.reduceEq, Int.reduceNe, Int.reduceLT, Int.reduceLE, Int.reduceToNat]
        refine ⟨⟨.inl trivial, by omega, fun x hx => by have := mem_w es x hx; omega, by omega, by omega⟩, ?_⟩
        first | exact ⟨⟨.inl trivial, .inl trivial, hsz, ha.2, hc.2⟩, rfl⟩ | exact ⟨.inl trivial, .inl trivial, hsz, ha.2, hc.2⟩
set_option maxHeartbeats 4000000 in
theorem rpar_tail {s : List UInt8} {L : List (List UInt8)} (t : List UInt8) (ps : List (List UInt8)) (a c : WhoL) (A : Nat) (hA : A ≤ L.length) (r : Ret) (hs1 : s.length ≤ 10000) (hL : linesA [] s = L)
    (hg : guessC s = ⟨t, ps, a, c, (gExt [] (L.drop A)).1, joinN ((gExt [] (L.drop A)).2.drop 1)⟩) {pr : Prop} (hr : rparR (guessC s) (rightC (guessC s) && decide (bodyC (guessC s) = s)) pr = some r)
    (h20 : t.length = 20) (hps : ∀ p ∈ ps, p.length = 20) (hpl : ps.length ≤ 20000) (ha : a.name.length + a.mail.length + a.zone.length ≤ 40000 ∧ inI a.time) (hc : c.name.length + c.mail.length + c.zone.length ≤ 40000 ∧ inI c.time) (s0 : S2)
    (hk : ent [(4234, 74, 2)] [0, 2, 4, 5, 6] [0, 1, 2, 3, 4] (toS s0) = some ⟨[(0, .str s), (2, .ref 0 0 0), (4, .own 1 L.length), (5, .ref 2 0 0), (6, .int .i64 (A : Int))], hpR L t ps a c [] []⟩) :
    awp2 phiRpar 0 k_rpar_t2_B2 (retQ2 r_rpar 0 r) s0 := by
  have hLl : L.length ≤ s.length + 1 := by have := linesA_len s []; rw [hL] at this; exact this
  have hLe : ∀ l ∈ L, l.length ≤ s.length := by intro l hl; rw [← hL] at hl; have := linesA_le s [] l hl; simpa using this
  have hw := wLin_lines s []
  rw [hL] at hw
  simp only [List.length_nil] at hw
  have hwA := wLin_drop L A
  generalize hE : gExt [] (L.drop A) = E at *
  simp only [k_rpar_t2_B2, go_sem, Nat.reduceDiv, Nat.reduceMod, ↓reduceIte, Nat.reduceEqDiff, Nat.reduceBEq, Nat.reduceSub, Nat.reduceLT, Nat.reduceAdd, Nat.reduceLeDiff, reduceCtorEq, Int.reduceEq, Int.reduceNe, Int.reduceLT, Int.reduceLE, Int.reduceToNat]
  refine loop2P [(4234, 74, 2)] [0, 2, 4, 5, 6] [0, 1, 2, 3, 4] (fun q : Nat × List ExL => ⟨[(0, .str s), (2, .ref 0 0 0), (4, .own 1 L.length), (5, .ref 2 0 0), (6, .int .i64 (q.1 : Int))], hpR L t ps a c q.2 []⟩)
    (fun q => q.1 ≤ L.length ∧ gExt q.2 (L.drop q.1) = E ∧ wExt q.2 + wLin (L.drop q.1) ≤ 40000 ∧ q.2.length ≤ q.1) (fun q => L.length - q.1) (A, []) hk ⟨hA, hE, by simp only [wExt, List.map_nil, List.sum_nil]; omega, Nat.zero_le _⟩ ⟨rfl, by rfl⟩ (fun q hq R hR => ?_)
  obtain ⟨i, acc⟩ := q
  simp only at hq hR ⊢
  obtain ⟨h1, h2, h3, h4⟩ := hq
  by_cases hil : i < L.length
  · have c1 : decide ((i : Int) < (L.length : Int)) = true := decide_eq_true (by omega)
    have hget := getD_map AV.str L [] (AV.str []) hil
    have hga : L.getD i [] = L[i] := by simp [List.getD_eq_getElem?_getD, List.getElem?_eq_getElem hil]
    have hd : L.drop i = L[i] :: L.drop (i + 1) := List.drop_eq_getElem_cons hil
    have hle := hLe L[i] (List.getElem_mem _)
    rw [hd, gExt] at h2
    generalize L[i] = l at *
    cases h5 : decide (l = []) with
    | true =>
      have h5' := of_decide_eq_true h5
      rw [if_pos h5'] at h2
      simp only [b_rpar_1, t_rpar_1, phiRpar_1, phiRpar_2, phiRpar_3, phiRpar_4, phiRpar_5, phiRpar_6, phiRpar_7, rfrontS, rparseS, rguessS, rcutS, hpR, comPs, com0, who0, c1, hget, hga, h5, Int.toNat_natCast, go_sem, Nat.reduceDiv, Nat.reduceMod, ↓reduceIte, Nat.reduceEqDiff, Nat.reduceBEq, Nat.reduceSub, Nat.reduceLT, Nat.reduceAdd, Nat.reduceLeDiff, reduceCtorEq, Int.reduceEq, Int.reduceNe, Int.reduceLT, Int.reduceLE, Int.reduceToNat]
      subst h2
      exact ⟨⟨by omega, by omega⟩, hil, ⟨by omega, by omega⟩, rpar_msg t ps a c acc i h1 r hs1 hL hg hr h20 hps hpl (by omega) (by omega) ha hc _ (by rfl)⟩
    | false =>
      have h5' := of_decide_eq_false h5
      rw [if_neg h5'] at h2
      have hl0 : 0 < l.length := List.length_pos_iff.2 h5'
      have hh : at8 l 0 = 32 ↔ l.head? = some 32 := by
        cases l with
        | nil => exact absurd rfl h5'
        | cons z zs =>
          rw [List.head?_cons]
          show ((z.toNat : Nat) : Int) = 32 ↔ _
          constructor
          · intro h; rw [show z = 32 from UInt8.toNat_inj.1 (by rw [show (32 : UInt8).toNat = 32 from rfl]; omega)]
          · intro h; injection h with h; rw [h]; rfl
      by_cases hc2 : l.head? = some 32 ∧ acc ≠ []
      · rw [if_pos hc2] at h2
        have ha0 : 0 < acc.length := List.length_pos_iff.2 hc2.2
        have c2 : decide (at8 l 0 = 32) = true := decide_eq_true (hh.2 hc2.1)
        have c3 : decide (0 ≤ (acc.length : Int) - 1) = true := decide_eq_true (by omega)
        have e2 : ((acc.length : Int) - 1).toNat = acc.length - 1 := by omega
        have hget2 := getD_map exV acc ([], []) (AV.agg [(1, AV.str []), (1, AV.str [])]) (show acc.length - 1 < acc.length by omega)
        have hga2 : acc.getD (acc.length - 1) ([], []) = acc[acc.length - 1]'(by omega) := by simp [List.getD_eq_getElem?_getD, List.getElem?_eq_getElem (show acc.length - 1 < acc.length by omega)]
        have hmw := mem_w acc (acc.getD (acc.length - 1) ([], [])) (by rw [hga2]; exact List.getElem_mem _)
        have htl : l.take l.length = l := List.take_length
        obtain ⟨w1, w2⟩ := cont1_w acc (l.drop 1) hc2.2
        rw [List.length_drop] at w1
        rw [hd] at h3
        simp only [wLin, List.map_cons, List.sum_cons] at h3
        simp only [b_rpar_1, phiRpar_1, phiRpar_2, phiRpar_3, phiRpar_4, phiRpar_5, phiRpar_6, phiRpar_7, rfrontS, rparseS, rguessS, rcutS, hpR, comPs, com0, who0, c1, c2, c3, hget, hga, h5, e2, hget2, exV, htl, Int.toNat_natCast, go_sem, Nat.reduceDiv, Nat.reduceMod, ↓reduceIte, Nat.reduceEqDiff, Nat.reduceBEq, Nat.reduceSub, Nat.reduceLT, Nat.reduceAdd, Nat.reduceLeDiff, reduceCtorEq, Int.reduceEq, Int.reduceNe, Int.reduceLT, Int.reduceLE, Int.reduceToNat]
        refine ⟨⟨by omega, by omega⟩, hil, ⟨by omega, by omega⟩, ⟨by omega, by omega⟩, hil, by omega, ⟨by omega, by omega⟩, by omega, by (first | omega | (simp only [lenOk, bytesOk, inI, IntKind.bits, List.length_append, Bs_len, List.length_cons, List.length_nil, List.length_map, List.length_take, List.length_drop, List.length_replicate]; omega)), ⟨by omega, by omega⟩, hil, ⟨by omega, by omega⟩, by (first | omega | (simp only [lenOk, bytesOk, inI, IntKind.bits, List.length_append, Bs_len, List.length_cons, List.length_nil, List.length_map, List.length_take, List.length_drop, List.length_replicate]; omega)), ⟨by omega, by omega⟩, by omega, ⟨by omega, by omega⟩,
          hR _ (i + 1, cont1 acc (l.drop 1)) ⟨by simp only; omega, h2, by simp only [wLin]; omega, by simp only; omega⟩ (by simp only; omega) ?_⟩
        simp only [hpR, w2]
        unfold cont1
        rw [List.map_set]
        rfl
      · rw [if_neg hc2] at h2
        have hlen : (acc.map exV ++ [AV.agg [(1, AV.str (cut l [32]).1), (1, AV.str (cut l [32]).2.1)]]).length = acc.length + 1 := by simp
        have hcl := gExt_w.cut_len2 l
        rw [hd] at h3
        have hwb : wExt (acc ++ [((cut l [32]).1, (cut l [32]).2.1)]) + wLin (L.drop (i + 1)) ≤ 40000 := by
          rw [wExt_app]
          simp only [wExt, wLin, List.map_cons, List.map_nil, List.sum_cons, List.sum_nil] at h3 ⊢; omega
        cases c2 : decide (at8 l 0 = 32) with
        | false =>
          simp only [b_rpar_1, phiRpar_1, phiRpar_2, phiRpar_3, phiRpar_4, phiRpar_5, phiRpar_6, phiRpar_7, rfrontS, rparseS, rguessS, rcutS, hpR, comPs, com0, who0, c1, c2, hget, hga, h5, chr_32, Int.toNat_natCast, go_sem, Nat.reduceDiv, Nat.reduceMod, ↓reduceIte, Nat.reduceEqDiff, Nat.reduceBEq, Nat.reduceSub, Nat.reduceLT, Nat.reduceAdd, Nat.reduceLeDiff, reduceCtorEq, Int.reduceEq, Int.reduceNe, Int.reduceLT, Int.reduceLE, Int.reduceToNat]
          refine ⟨⟨by omega, by omega⟩, hil, ⟨by omega, by omega⟩, ⟨by omega, by omega⟩, hil, by omega, ⟨by omega, by omega⟩, hil, by omega, ⟨by rw [hlen]; (first | omega | (simp only [lenOk, bytesOk, inI, IntKind.bits, List.length_append, Bs_len, List.length_cons, List.length_nil, List.length_map, List.length_take, List.length_drop, List.length_replicate]; omega)), by rw [hlen]; (first | omega | (simp only [lenOk, bytesOk, inI, IntKind.bits, List.length_append, Bs_len, List.length_cons, List.length_nil, List.length_map, List.length_take, List.length_drop, List.length_replicate]; omega))⟩, ⟨by omega, by omega⟩,
            hR _ (i + 1, acc ++ [((cut l [32]).1, (cut l [32]).2.1)]) ⟨by simp only; omega, h2, hwb, by simp only [List.length_append, List.length_cons, List.length_nil]; omega⟩ (by simp only; omega) ?_⟩
          simp only [hpR, List.length_append, List.length_cons, List.length_nil, List.map_append, List.map_cons, List.map_nil]
          rfl
        | true =>
          have c3 : decide (0 ≤ (acc.length : Int) - 1) = false := decide_eq_false (by
            intro h; exact hc2 ⟨hh.1 (of_decide_eq_true c2), fun e => by rw [e] at h; simp at h⟩)
          simp only [b_rpar_1, phiRpar_1, phiRpar_2, phiRpar_3, phiRpar_4, phiRpar_5, phiRpar_6, phiRpar_7, rfrontS, rparseS, rguessS, rcutS, hpR, comPs, com0, who0, c1, c2, c3, hget, hga, h5, chr_32, Int.toNat_natCast, go_sem, Nat.reduceDiv, Nat.reduceMod, ↓reduceIte, Nat.reduceEqDiff, Nat.reduceBEq, Nat.reduceSub, Nat.reduceLT, Nat.reduceAdd, Nat.reduceLeDiff, reduceCtorEq, Int.reduceEq, Int.reduceNe, Int.reduceLT, Int.reduceLE, Int.reduceToNat]
          refine ⟨⟨by omega, by omega⟩, hil, ⟨by omega, by omega⟩, ⟨by omega, by omega⟩, hil, by omega, ⟨by omega, by omega⟩, hil, by omega, ⟨by rw [hlen]; (first | omega | (simp only [lenOk, bytesOk, inI, IntKind.bits, List.length_append, Bs_len, List.length_cons, List.length_nil, List.length_map, List.length_take, List.length_drop, List.length_replicate]; omega)), by rw [hlen]; (first | omega | (simp only [lenOk, bytesOk, inI, IntKind.bits, List.length_append, Bs_len, List.length_cons, List.length_nil, List.length_map, List.length_take, List.length_drop, List.length_replicate]; omega))⟩, ⟨by omega, by omega⟩,
            hR _ (i + 1, acc ++ [((cut l [32]).1, (cut l [32]).2.1)]) ⟨by simp only; omega, h2, hwb, by simp only [List.length_append, List.length_cons, List.length_nil]; omega⟩ (by simp only; omega) ?_⟩
          simp only [hpR, List.length_append, List.length_cons, List.length_nil, List.map_append, List.map_cons, List.map_nil]
          rfl
  · have c1 : decide ((i : Int) < (L.length : Int)) = false := decide_eq_false (by omega)
    rw [List.drop_of_length_le (by omega), gExt] at h2
    subst h2
    have hg2 : guessC s = ⟨t, ps, a, c, acc, joinN (L.drop (i + 1))⟩ := by rw [hg, List.drop_of_length_le (show L.length ≤ i + 1 by omega)]; rfl
    simp only [b_rpar_1, t_rpar_1, phiRpar_1, phiRpar_2, phiRpar_3, phiRpar_4, phiRpar_5, phiRpar_6, phiRpar_7, rfrontS, rparseS, rguessS, rcutS, hpR, comPs, com0, who0, c1, go_sem, Nat.reduceDiv, Nat.reduceMod, ↓reduceIte, Nat.reduceEqDiff, Nat.reduceBEq, Nat.reduceSub, Nat.reduceLT, Nat.reduceAdd, Nat.reduceLeDiff, reduceCtorEq, Int.reduceEq, Int.reduceNe, Int.reduceLT, Int.reduceLE, Int.reduceToNat]
    exact ⟨⟨by omega, by omega⟩, rpar_msg t ps a c acc i h1 r hs1 hL hg2 hr h20 hps hpl (by omega) (by omega) ha hc _ (by rfl)⟩
theorem gWho_len {L : List (List UInt8)} (hL : ∀ l ∈ L, l.length ≤ 10000) (w : List UInt8) (n : Nat) : (gWho w (L.drop n)).name.length + (gWho w (L.drop n)).mail.length + (gWho w (L.drop n)).zone.length ≤ 40000 ∧ inI (gWho w (L.drop n)).time := by
  cases h : L.drop n with
  | nil => exact ⟨by simp [gWho, who0], by simp only [gWho, who0, inI]; omega⟩
  | cons l ls =>
    have h1 := hL l (List.mem_of_mem_drop (by rw [h]; exact List.mem_cons_self ..))
    have h2 := frontL_len l w
    obtain ⟨g1, g2, g3, g4, g5⟩ := guessW_len (frontL l w)
    simp only [gWho]
    exact ⟨by omega, by unfold inI; omega⟩
set_option maxHeartbeats 4000000 in
theorem rpar_ok : FnOk Tryz.prog 22 rparS := by
  refine fn_slim2 Tryz.func22 s_rpar phiRpar_ok ?_
  intro xs hp r hs hp'
  unfold rparS at hs
  split at hs
  · rename_i s
    have p1 := rparR_pre hs hp'
    refine ⟨len_le (by kernel_rfl), ?_⟩
    generalize hL : linesA [] s = L at *
    have hLl : L.length ≤ s.length + 1 := by have := linesA_len s []; rw [hL] at this; exact this
    have hLe : ∀ l ∈ L, l.length ≤ 10000 := by intro l hl; rw [← hL] at hl; have := linesA_le s [] l hl; simp only [List.length_nil] at this; omega
    have hL0 : 0 < L.length := List.length_pos_iff.2 (by rw [← hL]; exact linesA_ne s [])
    have c0 : decide ((0 : Int) < (L.length : Int)) = true := decide_eq_true (by omega)
    have hget0 := getD_map AV.str L [] (AV.str []) hL0
    have hga0 : L.getD 0 [] = L.headD [] := by cases L with | nil => simp at hL0 | cons a b => rfl
    have hle0 := hLe (L.headD []) (by rw [← hga0]; simp [List.getD_eq_getElem?_getD, List.getElem?_eq_getElem hL0])
    have hfl0 := frontL_len (L.headD []) treW
    have hw0 : ([116, 114, 101, 101, 32] : List UInt8) = treW := rfl
    have hr20 : ∀ l, (rOut l).length = 20 := fun l => by rw [rOut_eq]; exact pOut_len l
    simp only [c_rpar, phiRpar_1, phiRpar_2, phiRpar_3, phiRpar_4, phiRpar_5, phiRpar_6, phiRpar_7, rfrontS, rparseS, rguessS, rcutS, hpR, comPs, com0, who0, rlinesS, hL, c0, hget0, hga0, hw0, go_sem, Nat.reduceDiv, Nat.reduceMod, ↓reduceIte, Nat.reduceEqDiff, Nat.reduceBEq, Nat.reduceSub, Nat.reduceLT, Nat.reduceAdd, Nat.reduceLeDiff, reduceCtorEq, Int.reduceEq, Int.reduceNe, Int.reduceLT, Int.reduceLE, Int.reduceToNat]
    refine ⟨by omega, by omega, hL0, ⟨by omega, by decide⟩, by omega, hr20 _, ⟨by omega, by omega⟩, ?_⟩
    generalize htr : rOut (frontL (L.headD []) treW) = tr at *
    have htr20 : tr.length = 20 := by rw [← htr]; exact hr20 _
    have hgs : guessC s = ⟨tr, (gParents (L.drop 1)).1, gWho autW (gParents (L.drop 1)).2, gWho comW ((gParents (L.drop 1)).2.drop 1), (gExt [] ((gParents (L.drop 1)).2.drop 2)).1, joinN ((gExt [] ((gParents (L.drop 1)).2.drop 2)).2.drop 1)⟩ := by
      unfold guessC; rw [hL, htr]
    generalize hP : gParents (L.drop 1) = P at *
    refine loop2P [(4225, 22, 20)] [0, 2, 4, 5, 6] [0, 1, 2, 3] (fun q : Nat × List (List UInt8) => ⟨[(0, .str s), (2, .ref 0 0 0), (4, .own 1 L.length), (5, .ref 2 0 0), (6, .int .i64 (q.1 : Int))],
      [.cells 28 com0, .row 9 1 L.length (L.map AV.str), .cells 28 (comPs tr (.own 3 q.2.length) who0 who0 (.con (.slice none 0 0)) []), .row 22 20 q.2.length (q.2.map idAV)]⟩)
      (fun q => q.1 ≤ L.length ∧ (q.2 ++ (gParents (L.drop q.1)).1 = P.1 ∧ (gParents (L.drop q.1)).2 = P.2) ∧ q.2.length ≤ q.1 ∧ ∀ p ∈ q.2, p.length = 20) (fun q => L.length - q.1) (1, []) (by rfl) ⟨hL0, ⟨by rw [hP]; rfl, by rw [hP]⟩, Nat.zero_le _, fun p hp => by cases hp⟩ ⟨rfl, by rfl⟩ (fun q hq R hR => ?_)
    obtain ⟨i, acc⟩ := q
    simp only at hq hR ⊢
    obtain ⟨h1, ⟨h2, h3⟩, h4, h5⟩ := hq
    have h00 : who0.name.length + who0.mail.length + who0.zone.length ≤ 40000 ∧ inI who0.time := ⟨by decide, by unfold inI who0; simp only; omega⟩
    have hwp : ([112, 97, 114, 101, 110, 116, 32] : List UInt8) = parW := rfl
    have hwa : ([97, 117, 116, 104, 111, 114, 32] : List UInt8) = autW := rfl
    have hwc : ([99, 111, 109, 109, 105, 116, 116, 101, 114, 32] : List UInt8) = comW := rfl
    by_cases hil : i < L.length
    · have c1 : decide ((i : Int) < (L.length : Int)) = true := decide_eq_true (by omega)
      have hget := getD_map AV.str L [] (AV.str []) hil
      have hga : L.getD i [] = L[i] := by simp [List.getD_eq_getElem?_getD, List.getElem?_eq_getElem hil]
      have hd : L.drop i = L[i] :: L.drop (i + 1) := List.drop_eq_getElem_cons hil
      have hle := hLe L[i] (List.getElem_mem _)
      have hwh := gWho_len hLe autW i
      rw [hd, gParents] at h2 h3
      rw [hd] at hwh
      generalize L[i] = l at *
      have hf1 := frontL_len l parW
      cases hn : decide (frontL l parW = []) with
      | false =>
        have hn' := of_decide_eq_false hn
        rw [if_neg hn'] at h2 h3
        have hlen : (acc.map idAV ++ [AV.blob ((rOut (frontL l parW)).map U)]).length = acc.length + 1 := by simp
        simp only [b_rpar_0, phiRpar_1, phiRpar_2, phiRpar_3, phiRpar_4, phiRpar_5, phiRpar_6, phiRpar_7, rfrontS, rparseS, rguessS, rcutS, hpR, comPs, com0, who0, hwp, c1, hget, hga, hn, hr20, Int.toNat_natCast, go_sem, Nat.reduceDiv, Nat.reduceMod, ↓reduceIte, Nat.reduceEqDiff, Nat.reduceBEq, Nat.reduceSub, Nat.reduceLT, Nat.reduceAdd, Nat.reduceLeDiff, reduceCtorEq, Int.reduceEq, Int.reduceNe, Int.reduceLT, Int.reduceLE, Int.reduceToNat]
        refine ⟨⟨by omega, by omega⟩, hil, ⟨by omega, by decide⟩, ⟨by omega, by omega⟩, hil, ⟨by omega, by decide⟩, by omega, ⟨by rw [hlen]; (first | omega | (simp only [lenOk, bytesOk, inI, IntKind.bits, List.length_append, Bs_len, List.length_cons, List.length_nil, List.length_map, List.length_take, List.length_drop, List.length_replicate]; omega)), by rw [hlen]; (first | omega | (simp only [lenOk, bytesOk, inI, IntKind.bits, List.length_append, Bs_len, List.length_cons, List.length_nil, List.length_map, List.length_take, List.length_drop, List.length_replicate]; omega))⟩, ⟨by omega, by omega⟩,
          hR _ (i + 1, acc ++ [rOut (frontL l parW)]) ⟨by simp only; omega, ⟨by simpa using h2, h3⟩, by simp only [List.length_append, List.length_cons, List.length_nil]; omega, fun p hp => ?_⟩ (by simp only; omega) ?_⟩
        · rcases List.mem_append.1 hp with hp | hp
          · exact h5 p hp
          · rw [List.mem_singleton.1 hp]; exact hr20 _
        · simp only [comPs, List.length_append, List.length_cons, List.length_nil, List.map_append, List.map_cons, List.map_nil]
          rfl
      | true =>
        have hn' := of_decide_eq_true hn
        rw [if_pos hn'] at h2 h3
        simp only [List.append_nil] at h2
        rw [← h2, ← h3] at hgs
        simp only [gWho, List.drop_succ_cons, List.drop_zero] at hgs hwh
        have hf2 := frontL_len l autW
        by_cases hil2 : i + 1 < L.length
        · have c2 : decide ((i : Int) + 1 < (L.length : Int)) = true := decide_eq_true (by omega)
          have e1 : ((i : Int) + 1).toNat = i + 1 := by omega
          have hget2 := getD_map AV.str L [] (AV.str []) hil2
          have hga2 : L.getD (i + 1) [] = L[i + 1] := by simp [List.getD_eq_getElem?_getD, List.getElem?_eq_getElem hil2]
          have hd2 : L.drop (i + 1) = L[i + 1] :: L.drop (i + 1 + 1) := List.drop_eq_getElem_cons hil2
          have hle2 := hLe L[i + 1] (List.getElem_mem _)
          have hwh2 := gWho_len hLe comW (i + 1)
          rw [hd2] at hwh2 hgs
          generalize L[i + 1] = l2 at *
          have hf3 := frontL_len l2 comW
          simp only [gWho, List.drop_succ_cons, List.drop_zero] at hgs hwh2
          simp only [b_rpar_0, t_rpar_2, phiRpar_1, phiRpar_2, phiRpar_3, phiRpar_4, phiRpar_5, phiRpar_6, phiRpar_7, rfrontS, rparseS, rguessS, rcutS, hpR, comPs, com0, who0, whoP, hwp, hwa, hwc, c1, c2, e1, hget, hga, hget2, hga2, hn, Int.toNat_natCast, go_sem, Nat.reduceDiv, Nat.reduceMod, ↓reduceIte, Nat.reduceEqDiff, Nat.reduceBEq, Nat.reduceSub, Nat.reduceLT, Nat.reduceAdd, Nat.reduceLeDiff, reduceCtorEq, Int.reduceEq, Int.reduceNe, Int.reduceLT, Int.reduceLE, Int.reduceToNat]
          refine ⟨⟨by omega, by omega⟩, hil, ⟨by omega, by decide⟩, ⟨by omega, by omega⟩, hil, ⟨by omega, by decide⟩, by omega, ⟨by omega, by omega⟩, ⟨by omega, by omega⟩, hil2, ⟨by omega, by decide⟩, by omega, ⟨by omega, by omega⟩, ?_⟩
          exact rpar_tail tr acc (guessW (frontL l autW)) (guessW (frontL l2 comW)) (i + 1 + 1) (by omega) r p1 hL hgs hs htr20 h5 (by omega) hwh hwh2 _ (by rfl)
        · have c2 : decide ((i : Int) + 1 < (L.length : Int)) = false := decide_eq_false (by omega)
          have hd2 : L.drop (i + 1) = [] := List.drop_of_length_le (by omega)
          have hgs2 : guessC s = ⟨tr, acc, guessW (frontL l autW), who0, (gExt [] (L.drop (i + 1))).1, joinN ((gExt [] (L.drop (i + 1))).2.drop 1)⟩ := by
            rw [hgs, hd2]; rfl
          simp only [b_rpar_0, t_rpar_2, phiRpar_1, phiRpar_2, phiRpar_3, phiRpar_4, phiRpar_5, phiRpar_6, phiRpar_7, rfrontS, rparseS, rguessS, rcutS, hpR, comPs, com0, who0, whoP, hwp, hwa, hwc, c1, c2, hget, hga, hn, Int.toNat_natCast, go_sem, Nat.reduceDiv, Nat.reduceMod, ↓reduceIte, Nat.reduceEqDiff, Nat.reduceBEq, Nat.reduceSub, Nat.reduceLT, Nat.reduceAdd, Nat.reduceLeDiff, reduceCtorEq, Int.reduceEq, Int.reduceNe, Int.reduceLT, Int.reduceLE, Int.reduceToNat]
          refine ⟨⟨by omega, by omega⟩, hil, ⟨by omega, by decide⟩, ⟨by omega, by omega⟩, hil, ⟨by omega, by decide⟩, by omega, ⟨by omega, by omega⟩, ?_⟩
          exact rpar_tail tr acc (guessW (frontL l autW)) who0 (i + 1) (by omega) r p1 hL hgs2 hs htr20 h5 (by omega) hwh h00 _ (by rfl)
    · have c1 : decide ((i : Int) < (L.length : Int)) = false := decide_eq_false (by omega)
      have hd : L.drop i = [] := List.drop_of_length_le (by omega)
      rw [hd] at h2 h3
      simp only [gParents, List.append_nil] at h2 h3
      rw [← h2, ← h3] at hgs
      have hgs2 : guessC s = ⟨tr, acc, who0, who0, (gExt [] (L.drop i)).1, joinN ((gExt [] (L.drop i)).2.drop 1)⟩ := by
        rw [hgs, hd]; rfl
      simp only [b_rpar_0, t_rpar_2, phiRpar_1, phiRpar_2, phiRpar_3, phiRpar_4, phiRpar_5, phiRpar_6, phiRpar_7, rfrontS, rparseS, rguessS, rcutS, hpR, comPs, com0, who0, whoP, hwp, hwa, hwc, c1, Int.toNat_natCast, go_sem, Nat.reduceDiv, Nat.reduceMod, ↓reduceIte, Nat.reduceEqDiff, Nat.reduceBEq, Nat.reduceSub, Nat.reduceLT, Nat.reduceAdd, Nat.reduceLeDiff, reduceCtorEq, Int.reduceEq, Int.reduceNe, Int.reduceLT, Int.reduceLE, Int.reduceToNat]
      exact rpar_tail tr acc who0 who0 i (by omega) r p1 hL hgs2 hs htr20 h5 (by omega) h00 h00 _ (by rfl)
  · cases hs
end Go.Proofs.YtlkaaoekbmegkaaGreatDoor
namespace Go.Proofs.YtlkaaoekbmegkaaGreatDoor
set_option linter.all false
open Go.RowKit Go.ChangeShapes Go.WideShapes Go.ChangeAt Go.Deep
section
variable {H : Type} {enc : TypeId × Value → H} {P : Program} {w : World} {base : Nat} {spare : Nat → Bool} {held : Bool}
end
end Go.Proofs.YtlkaaoekbmegkaaGreatDoor
namespace Go.Proofs.YtlkaaoekbmegkaaGreatDoor
set_option linter.all false
open Go.RowKit Go.ChangeShapes Go.WideShapes Go.ChangeAt Go.Deep
section
variable {H : Type} {enc : TypeId × Value → H} {P : Program} {w : World} {base : Nat} {spare : Nat → Bool} {held : Bool}
end
end Go.Proofs.YtlkaaoekbmegkaaGreatDoor
namespace Go.Proofs.YtlkaaoekbmegkaaGreatDoor
set_option linter.all false
open Go.RowKit Go.ChangeShapes Go.WideShapes Go.ChangeAt Go.Deep
section
variable {H : Type} {enc : TypeId × Value → H} {P : Program} {w : World} {base : Nat} {spare : Nat → Bool} {held : Bool}
end
end Go.Proofs.YtlkaaoekbmegkaaGreatDoor
namespace Go.Proofs.YtlkaaoekbmegkaaGreatDoor
set_option linter.all false
open Go.RowKit Go.ChangeShapes Go.WideShapes Go.ChangeAt Go.Deep
section
variable {H : Type} {enc : TypeId × Value → H} {P : Program} {w : World} {base : Nat} {spare : Nat → Bool} {held : Bool}
end
end Go.Proofs.YtlkaaoekbmegkaaGreatDoor
namespace Go.Proofs.YtlkaaoekbmegkaaGreatDoor
set_option linter.all false
open Go.RowKit Go.ChangeShapes Go.WideShapes Go.ChangeAt Go.Deep
section
variable {H : Type} {enc : TypeId × Value → H} {P : Program} {w : World} {base : Nat} {spare : Nat → Bool} {held : Bool}
end
end Go.Proofs.YtlkaaoekbmegkaaGreatDoor
