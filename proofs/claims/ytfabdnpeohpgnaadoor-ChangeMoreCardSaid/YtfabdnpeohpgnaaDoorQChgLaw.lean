import Derived.Test.YtfabdnpeohpgnaaDoorQFFDec
import Derived.Test.YtfabdnpeohpgnaaDoorQFGrow
import Derived.Test.YtfabdnpeohpgnaaDoorQShelf
namespace Go.Proofs.YtfabdnpeohpgnaaDoor
set_option linter.all false
open Go.RowKit
open Go.Lib (index hasPrefix cut indexAny itoa decDigits)
structure ChgL where
  man : List UInt8
  user : List UInt8
  time : Int
  zone : Int
  extras : List ExL
  files : List (List UInt8)
  desc : List UInt8
def keyC (c : UInt8) : Bool := (decide (97 ≤ c.toNat) && decide (c.toNat ≤ 122)) || (decide (65 ≤ c.toNat) && decide (c.toNat ≤ 90)) || (decide (48 ≤ c.toNat) && decide (c.toNat ≤ 57)) || decide (c.toNat = 45) || decide (c.toNat = 95)
def keyedB (s : List UInt8) : Bool := decide (s ≠ []) && decide (s.length ≤ 100) && s.all keyC
def ascB : List (List UInt8) → Bool
  | [] => true
  | [_] => true
  | a :: b :: r => Op.bytesLess a b && ascB (b :: r)
def rightH (c : ChgL) : Bool := decide (c.user ≠ []) && !c.user.contains 10 && decide (0 ≤ c.time) && decide (c.time < 4611686018427387904) && decide (-86399 ≤ c.zone) && decide (c.zone ≤ 86399) &&
  (c.extras.all fun x => keyedB x.1) && ascB (c.extras.map Prod.fst) && c.files.all rightP && ascB c.files
def escC (c : UInt8) : List UInt8 := if c = 92 then [92, 92] else if c = 10 then [92, 110] else if c = 13 then [92, 114] else if c = 0 then [92, 48] else [c]
def tolL (v : List UInt8) : List UInt8 := v.flatMap escC
def meC (d : UInt8) : UInt8 := if d = 110 then 10 else if d = 114 then 13 else if d = 48 then 0 else d
def meaL : List UInt8 → List UInt8
  | [] => []
  | [c] => [c]
  | c :: d :: r => if c = 92 then meC d :: meaL r else c :: meaL (d :: r)
theorem mea_pair (d : UInt8) (r : List UInt8) : meaL (92 :: d :: r) = meC d :: meaL r := by rw [meaL, if_pos rfl]
theorem mea_other {c : UInt8} (h : c ≠ 92) (r : List UInt8) : meaL (c :: r) = c :: meaL r := by
  cases r with
  | nil => rfl
  | cons d r => rw [meaL, if_neg h]
theorem mea_tol : ∀ v : List UInt8, meaL (tolL v) = v
  | [] => rfl
  | c :: v => by
    have ih := mea_tol v
    unfold tolL at ih ⊢
    rw [List.flatMap_cons]
    by_cases h1 : c = 92
    · subst h1; rw [show escC 92 = [92, 92] from rfl, List.cons_append, List.cons_append, List.nil_append, mea_pair, ih]; rfl
    by_cases h2 : c = 10
    · subst h2; rw [show escC 10 = [92, 110] from rfl, List.cons_append, List.cons_append, List.nil_append, mea_pair, ih]; rfl
    by_cases h3 : c = 13
    · subst h3; rw [show escC 13 = [92, 114] from rfl, List.cons_append, List.cons_append, List.nil_append, mea_pair, ih]; rfl
    by_cases h4 : c = 0
    · subst h4; rw [show escC 0 = [92, 48] from rfl, List.cons_append, List.cons_append, List.nil_append, mea_pair, ih]; rfl
    rw [show escC c = [c] by unfold escC; rw [if_neg h1, if_neg h2, if_neg h3, if_neg h4], List.cons_append, List.nil_append, mea_other h1, ih]
theorem tol_no (v : List UInt8) : (10 : UInt8) ∉ tolL v ∧ (0 : UInt8) ∉ tolL v := by
  have key : ∀ c x : UInt8, x ∈ escC c → x ≠ 10 ∧ x ≠ 0 := by
    intro c x hx
    unfold escC at hx
    repeat' split at hx
    all_goals (simp only [List.mem_cons, List.not_mem_nil, or_false] at hx)
    all_goals first | (rcases hx with rfl | rfl <;> decide) | skip
    rename_i h1 h2 h3 h4
    subst hx; exact ⟨h2, h4⟩
  constructor
  · intro h; obtain ⟨c, _, hc⟩ := List.mem_flatMap.1 h; exact (key c _ hc).1 rfl
  · intro h; obtain ⟨c, _, hc⟩ := List.mem_flatMap.1 h; exact (key c _ hc).2 rfl
def joinB (c : UInt8) : List (List UInt8) → List UInt8
  | [] => []
  | x :: xs => x ++ xs.flatMap (c :: ·)
theorem joinB_psl (c : UInt8) : ∀ l : List UInt8, joinB c (psl c l) = l
  | [] => by simp [psl, joinB]
  | b :: l => by
    have ih := joinB_psl c l
    by_cases h : b = c
    · subst h
      rw [psl_cons_eq, joinB, List.nil_append]
      cases hp : psl b l with
      | nil => exact absurd hp (psl_ne _ _)
      | cons x t => rw [hp, joinB] at ih; rw [List.flatMap_cons, List.cons_append, ih]
    · obtain ⟨x, t, e1, e2⟩ := psl_cons_ne h l
      rw [e1, joinB] at ih
      rw [e2, joinB, List.cons_append, ih]
theorem psl_none {c : UInt8} : ∀ {l : List UInt8}, c ∉ l → psl c l = [l]
  | [], _ => rfl
  | b :: l, h => by
    have h1 : b ≠ c := fun e => h (by rw [e]; exact List.mem_cons_self ..)
    rw [psl, if_neg h1, psl_none (fun e => h (List.mem_cons_of_mem _ e))]
theorem psl_app {c : UInt8} : ∀ {a : List UInt8} (b : List UInt8), c ∉ a → psl c (a ++ c :: b) = a :: psl c b
  | [], b, _ => by rw [List.nil_append, psl_cons_eq]
  | x :: a, b, h => by
    have h1 : x ≠ c := fun e => h (by rw [e]; exact List.mem_cons_self ..)
    rw [List.cons_append, psl, if_neg h1, psl_app b (fun e => h (List.mem_cons_of_mem _ e))]
theorem psl_join {c : UInt8} : ∀ {xs : List (List UInt8)}, xs ≠ [] → (∀ x ∈ xs, c ∉ x) → psl c (joinB c xs) = xs
  | [], h, _ => absurd rfl h
  | [x], _, h => by rw [joinB, List.flatMap_nil, List.append_nil, psl_none (h x (List.mem_cons_self ..))]
  | x :: y :: r, _, h => by
    have ih := psl_join (c := c) (xs := y :: r) (by simp) (fun z hz => h z (List.mem_cons_of_mem _ hz))
    rw [joinB, List.flatMap_cons, List.cons_append, psl_app _ (h x (List.mem_cons_self ..))]
    rw [joinB] at ih; rw [ih]
def exT (x : ExL) : List UInt8 := x.1 ++ 58 :: tolL x.2
def exsT : List ExL → List UInt8
  | [] => []
  | x :: xs => 32 :: joinB 0 ((x :: xs).map exT)
def fileT (f : List UInt8) : List UInt8 := f ++ [10]
def dateT (c : ChgL) : List UInt8 := itoa c.time ++ 32 :: (itoa c.zone ++ exsT c.extras)
def bodyH (c : ChgL) : List UInt8 := hexL c.man ++ 10 :: (c.user ++ 10 :: (dateT c ++ 10 :: (c.files.flatMap fileT ++ 10 :: c.desc)))
def exP (o : List UInt8) : ExL := ((cut o [58]).1, meaL (cut o [58]).2.1)
def exOk (o : List UInt8) : Bool := (cut o [58]).2.2 && decide (tolL (meaL (cut o [58]).2.1) = (cut o [58]).2.1)
def filesG : Nat → List UInt8 → Bool → List (List UInt8) → List UInt8 × Bool × List (List UInt8)
  | 0, s, b, acc => (s, b, acc)
  | f + 1, s, b, acc => if b = true then (s, b, acc) else
      if (cut s [10]).1 = [] then ((cut s [10]).2.1, !(cut s [10]).2.2, acc) else filesG f (cut s [10]).2.1 (!(cut s [10]).2.2) (acc ++ [(cut s [10]).1])
def q1 (s : List UInt8) := cut s [10]
def q2 (s : List UInt8) := cut (q1 s).2.1 [10]
def q3 (s : List UInt8) := cut (q2 s).2.1 [10]
def tP (s : List UInt8) := cut (q3 s).1 [32]
def zP (s : List UInt8) := cut (tP s).2.1 [32]
def exsP (s : List UInt8) : List ExL := if (zP s).2.2 = true then (psl 0 (zP s).2.1).map exP else []
noncomputable def bad0 (s : List UInt8) : Bool := !(q1 s).2.2 || !(q2 s).2.2 || !(q3 s).2.2 || !nmB (tP s).1 || !nmB (zP s).1
noncomputable def badH (s : List UInt8) : Bool := bad0 s || ((zP s).2.2 && (psl 0 (zP s).2.1).any fun o => !exOk o)
noncomputable def fG (s : List UInt8) := filesG ((q3 s).2.1.length + 1) (q3 s).2.1 (badH s) []
noncomputable def chgC (s : List UInt8) : ChgL := ⟨pOut (q1 s).1, (q2 s).1, nmV (tP s).1, nmV (zP s).1, exsP s, (fG s).2.2, (fG s).1⟩
noncomputable def chgB (s : List UInt8) : Bool := goodQ (q1 s).1 && !(fG s).2.1 && rightH (chgC s)
theorem cut1_t {s : List UInt8} {c : UInt8} (h : (cut s [c]).2.2 = true) : s = (cut s [c]).1 ++ c :: (cut s [c]).2.1 := cut_t h
theorem filesG_true (f : Nat) (s : List UInt8) (acc : List (List UInt8)) : filesG f s true acc = (s, true, acc) := by
  cases f with
  | zero => rfl
  | succ f => rw [filesG, if_pos rfl]
theorem filesG_inv : ∀ (f : Nat) (s : List UInt8) (b : Bool) (acc : List (List UInt8)), s.length < f → (filesG f s b acc).2.1 = false →
    b = false ∧ ∃ fs, (filesG f s b acc).2.2 = acc ++ fs ∧ s = fs.flatMap fileT ++ 10 :: (filesG f s b acc).1 := by
  intro f
  induction f with
  | zero => intro s b acc h; omega
  | succ f ih =>
    intro s b acc hl h
    cases b with
    | true => rw [filesG_true] at h; cases h
    | false =>
      refine ⟨rfl, ?_⟩
      by_cases h1 : (cut s [10]).1 = []
      · rw [filesG, if_neg (by simp), if_pos h1] at h ⊢
        simp only [Bool.not_eq_false'] at h
        have := cut1_t h
        rw [h1] at this
        exact ⟨[], by simp, by simpa using this⟩
      · rw [filesG, if_neg (by simp), if_neg h1] at h ⊢
        cases h2 : (cut s [10]).2.2 with
        | false => rw [h2, show (!false) = true from rfl, filesG_true] at h; cases h
        | true =>
          rw [h2] at h
          simp only [Bool.not_true] at h ⊢
          have e := cut1_t h2
          have el := congrArg List.length e
          simp only [List.length_append, List.length_cons] at el
          obtain ⟨-, fs, h3, h4⟩ := ih _ _ _ (by omega) h
          refine ⟨(cut s [10]).1 :: fs, by rw [h3]; simp, ?_⟩
          rw [List.flatMap_cons, List.append_assoc, ← h4]
          conv => lhs; rw [e]
          simp [fileT]
theorem filesG_app : ∀ (fs : List (List UInt8)) (f : Nat) (d : List UInt8) (acc : List (List UInt8)), fs.length < f → (∀ x ∈ fs, x ≠ [] ∧ (10 : UInt8) ∉ x) →
    filesG f (fs.flatMap fileT ++ 10 :: d) false acc = (d, false, acc ++ fs) := by
  intro fs
  induction fs with
  | nil =>
    intro f d acc hf _
    obtain ⟨f, rfl⟩ : ∃ k, f = k + 1 := ⟨f - 1, by simp only [List.length_nil] at hf; omega⟩
    have e : cut (10 :: d) [10] = ([], d, true) := cut_1 (a := []) (by simp)
    rw [List.flatMap_nil, List.nil_append, filesG, if_neg (by simp), e, if_pos rfl, List.append_nil]; rfl
  | cons x fs ih =>
    intro f d acc hf hx
    obtain ⟨f, rfl⟩ : ∃ k, f = k + 1 := ⟨f - 1, by simp only [List.length_cons] at hf; omega⟩
    simp only [List.length_cons] at hf
    obtain ⟨x1, x2⟩ := hx x (List.mem_cons_self ..)
    have e : cut ((x :: fs).flatMap fileT ++ 10 :: d) [10] = (x, fs.flatMap fileT ++ 10 :: d, true) := by
      rw [List.flatMap_cons, fileT, List.append_assoc, List.append_assoc]
      exact cut_1 x2
    rw [filesG, if_neg (by simp), e, if_neg x1]
    simp only [Bool.not_true]
    rw [ih f d _ (by omega) (fun y hy => hx y (List.mem_cons_of_mem _ hy))]
    simp
theorem exT_P {o : List UInt8} (h : exOk o = true) : exT (exP o) = o := by
  unfold exOk at h
  simp only [Bool.and_eq_true, decide_eq_true_eq] at h
  unfold exT exP
  simp only
  rw [h.2, ← cut1_t h.1]
theorem keyC_no {k : List UInt8} (h : keyedB k = true) {c : UInt8} (hc : keyC c = false) : c ∉ k := by
  unfold keyedB at h
  simp only [Bool.and_eq_true, List.all_eq_true] at h
  intro hm
  have := h.2 c hm
  rw [hc] at this; cases this
theorem exP_T {x : ExL} (h : keyedB x.1 = true) : exP (exT x) = x ∧ exOk (exT x) = true := by
  have e : cut (exT x) [58] = (x.1, tolL x.2, true) := cut_1 (keyC_no h (by decide))
  unfold exP exOk
  rw [e]
  simp only
  rw [mea_tol]
  exact ⟨rfl, by simp⟩
theorem exT_no {x : ExL} (h : keyedB x.1 = true) : (10 : UInt8) ∉ exT x ∧ (0 : UInt8) ∉ exT x ∧ exT x ≠ [] := by
  obtain ⟨h1, h2⟩ := tol_no x.2
  have h3 := keyC_no h (c := 10) (by decide)
  have h4 := keyC_no h (c := 0) (by decide)
  unfold exT
  simp only [List.mem_append, List.mem_cons, not_or]
  exact ⟨⟨h3, by decide, h1⟩, ⟨h4, by decide, h2⟩, by simp⟩
theorem joinB_no {c : UInt8} (hc : c ≠ 0) : ∀ {xs : List (List UInt8)}, (∀ x ∈ xs, c ∉ x) → c ∉ joinB 0 xs
  | [], _ => by simp [joinB]
  | x :: xs, h => by
    rw [joinB, List.mem_append, not_or]
    refine ⟨h x (List.mem_cons_self ..), fun hm => ?_⟩
    obtain ⟨y, hy, hm⟩ := List.mem_flatMap.1 hm
    rcases List.mem_cons.1 hm with rfl | hm
    · exact hc rfl
    · exact h y (List.mem_cons_of_mem _ hy) hm
structure RightH (c : ChgL) : Prop where
  user : c.user ≠ [] ∧ (10 : UInt8) ∉ c.user
  time : 0 ≤ c.time ∧ c.time < 4611686018427387904
  zone : -86399 ≤ c.zone ∧ c.zone ≤ 86399
  keys : ∀ x ∈ c.extras, keyedB x.1 = true
  paths : ∀ f ∈ c.files, rightP f = true
theorem rightH_of {c : ChgL} (h : rightH c = true) : RightH c := by
  unfold rightH at h
  simp only [Bool.and_eq_true, decide_eq_true_eq, List.all_eq_true, Bool.not_eq_true'] at h
  obtain ⟨⟨⟨⟨⟨⟨⟨⟨⟨h1, h2⟩, h3⟩, h4⟩, h5⟩, h6⟩, h7⟩, h8⟩, h9⟩, h10⟩ := h
  exact ⟨⟨h1, fun hm => by rw [List.contains_iff_mem.2 hm] at h2; cases h2⟩, ⟨h3, h4⟩, ⟨h5, h6⟩, h7, h9⟩
theorem exsT_no {es : List ExL} (h : ∀ x ∈ es, keyedB x.1 = true) : (10 : UInt8) ∉ exsT es := by
  cases es with
  | nil => simp [exsT]
  | cons x xs =>
    rw [exsT, List.mem_cons, not_or]
    refine ⟨by decide, joinB_no (by decide) fun y hy => ?_⟩
    obtain ⟨z, hz, rfl⟩ := List.mem_map.1 hy
    exact (exT_no (h z hz)).1
theorem dateT_no {c : ChgL} (h : RightH c) : (10 : UInt8) ∉ dateT c := by
  unfold dateT
  simp only [List.mem_append, List.mem_cons, not_or]
  exact ⟨itoa_no _ _ (by decide) (by decide), by decide, itoa_no _ _ (by decide) (by decide), exsT_no h.keys⟩
theorem file_no {f : List UInt8} (h : rightP f = true) : f ≠ [] ∧ (10 : UInt8) ∉ f := by
  obtain ⟨_, h2, h3⟩ := rightP_facts h
  exact ⟨h3, fun hm => (h2 10 hm).2.1 rfl⟩
theorem hexL_n10 (l : List UInt8) : (10 : UInt8) ∉ hexL l := fun h => absurd (hexL_ok l 10 h) (by unfold dv; decide)
theorem flat_ge (fs : List (List UInt8)) : fs.length ≤ (fs.flatMap fileT).length := by
  induction fs with
  | nil => simp
  | cons x fs ih => rw [List.flatMap_cons, List.length_append, List.length_cons]; simp only [fileT, List.length_append, List.length_cons, List.length_nil] at ih ⊢; omega
theorem cut_date {c : ChgL} (h : RightH c) : cut (dateT c) [32] = (itoa c.time, itoa c.zone ++ exsT c.extras, true) ∧
    (c.extras = [] → cut (itoa c.zone ++ exsT c.extras) [32] = (itoa c.zone, [], false)) ∧ (c.extras ≠ [] → cut (itoa c.zone ++ exsT c.extras) [32] = (itoa c.zone, joinB 0 (c.extras.map exT), true)) := by
  have n1 := itoa_no c.time 32 (by decide) (by decide)
  have n2 := itoa_no c.zone 32 (by decide) (by decide)
  refine ⟨cut_1 n1, fun e => ?_, fun e => ?_⟩
  · rw [e, exsT, List.append_nil, cut_1n n2]
  · cases he : c.extras with
    | nil => exact absurd he e
    | cons x xs => exact cut_1 n2
theorem chg_body {c : ChgL} (h : rightH c = true) (h20 : c.man.length = 20) : chgB (bodyH c) = true ∧ chgC (bodyH c) = c := by
  have hr := rightH_of h
  generalize hs : bodyH c = s
  unfold bodyH at hs
  have e1 : q1 s = (hexL c.man, c.user ++ 10 :: (dateT c ++ 10 :: (c.files.flatMap fileT ++ 10 :: c.desc)), true) := by unfold q1; rw [← hs]; exact cut_1 (hexL_n10 _)
  have e2 : q2 s = (c.user, dateT c ++ 10 :: (c.files.flatMap fileT ++ 10 :: c.desc), true) := by unfold q2; rw [e1]; exact cut_1 hr.user.2
  have e3 : q3 s = (dateT c, c.files.flatMap fileT ++ 10 :: c.desc, true) := by unfold q3; rw [e2]; exact cut_1 (dateT_no hr)
  obtain ⟨d1, d2, d3⟩ := cut_date hr
  have e4 : tP s = (itoa c.time, itoa c.zone ++ exsT c.extras, true) := by unfold tP; rw [e3]; exact d1
  obtain ⟨m1, m2⟩ := nm_itoa (z := c.time) (by have := hr.time; omega) hr.time.2
  obtain ⟨m3, m4⟩ := nm_itoa (z := c.zone) (by have := hr.zone; omega) (by have := hr.zone; omega)
  have eb : (zP s).1 = itoa c.zone ∧ exsP s = c.extras ∧ ((zP s).2.2 && (psl 0 (zP s).2.1).any fun o => !exOk o) = false := by
    by_cases he : c.extras = []
    · have e5 : zP s = (itoa c.zone, [], false) := by unfold zP; rw [e4]; exact d2 he
      unfold exsP
      rw [e5, he]
      exact ⟨rfl, rfl, rfl⟩
    · have e5 : zP s = (itoa c.zone, joinB 0 (c.extras.map exT), true) := by unfold zP; rw [e4]; exact d3 he
      have ep : psl 0 (joinB 0 (c.extras.map exT)) = c.extras.map exT := by
        refine psl_join (by simpa using he) fun x hx => ?_
        obtain ⟨y, hy, rfl⟩ := List.mem_map.1 hx
        exact (exT_no (hr.keys y hy)).2.1
      unfold exsP
      rw [e5]
      simp only
      rw [ep, if_pos trivial, List.map_map]
      refine ⟨trivial, ?_, ?_⟩
      · conv => rhs; rw [← List.map_id c.extras]
        exact List.map_congr_left fun x hx => (exP_T (hr.keys x hx)).1
      · rw [Bool.true_and, List.any_eq_false]
        intro o ho
        obtain ⟨y, hy, rfl⟩ := List.mem_map.1 ho
        rw [(exP_T (hr.keys y hy)).2]; simp
  obtain ⟨b1, b2, b3⟩ := eb
  have e6 : badH s = false := by unfold badH bad0; rw [b3, e1, e2, e3, e4, b1]; simp only; rw [m1, m3]; rfl
  have e7 : fG s = (c.desc, false, c.files) := by
    unfold fG
    rw [e6, e3]
    simp only
    refine filesG_app c.files _ c.desc [] ?_ fun x hx => file_no (hr.paths x hx)
    have := flat_ge c.files
    simp only [List.length_append, List.length_cons]; omega
  have ec : chgC s = c := by
    unfold chgC
    rw [e1, e2, e4, b1, b2, e7]
    simp only
    rw [m2, m4, pOut_hex _ h20]
  refine ⟨?_, ec⟩
  unfold chgB
  rw [ec, h, e7, e1]
  simp only
  rw [hex_good _ h20]; rfl
theorem chgC_len (s : List UInt8) : (chgC s).man.length = 20 := pOut_len _
theorem body_chg {s : List UInt8} (h : chgB s = true) : rightH (chgC s) = true ∧ bodyH (chgC s) = s := by
  unfold chgB at h
  simp only [Bool.and_eq_true, Bool.not_eq_true'] at h
  obtain ⟨⟨h1, h2⟩, h3⟩ := h
  refine ⟨h3, ?_⟩
  obtain ⟨b, fs, f1, f2⟩ := filesG_inv _ _ _ _ (Nat.lt_succ_self _) h2
  have f1 : (fG s).2.2 = [] ++ fs := f1
  have f2 : (q3 s).2.1 = fs.flatMap fileT ++ 10 :: (fG s).1 := f2
  unfold badH bad0 at b
  simp only [Bool.or_eq_false_iff, Bool.not_eq_false'] at b
  obtain ⟨⟨⟨⟨⟨a1, a2⟩, a3⟩, a4⟩, a5⟩, a6⟩ := b
  have c1 : s = (q1 s).1 ++ 10 :: (q1 s).2.1 := cut1_t a1
  have c2 : (q1 s).2.1 = (q2 s).1 ++ 10 :: (q2 s).2.1 := cut1_t a2
  have c3 : (q2 s).2.1 = (q3 s).1 ++ 10 :: (q3 s).2.1 := cut1_t a3
  have hz : (zP s).1 ≠ [] := by intro e; rw [e, nmB_nil] at a5; cases a5
  have c4 : (q3 s).1 = (tP s).1 ++ 32 :: (tP s).2.1 := by
    cases ht : (tP s).2.2 with
    | true => exact cut1_t ht
    | false =>
      exfalso
      have := (cut_f ht).2
      apply hz
      unfold zP
      rw [show (tP s).2.1 = [] from this]; rfl
  have c5 : (tP s).2.1 = (zP s).1 ++ exsT (exsP s) := by
    unfold exsP
    cases ht : (zP s).2.2 with
    | true =>
      rw [ht, Bool.true_and, List.any_eq_false] at a6
      have e := cut1_t ht
      have em : ((psl 0 (zP s).2.1).map exP).map exT = psl 0 (zP s).2.1 := by
        rw [List.map_map]
        conv => rhs; rw [← List.map_id (psl 0 (zP s).2.1)]
        refine List.map_congr_left fun o ho => exT_P ?_
        have := a6 o ho
        cases hk : exOk o with
        | true => rfl
        | false => rw [hk] at this; exact absurd rfl this
      have ej := joinB_psl 0 (zP s).2.1
      rw [if_pos rfl]
      have en : (psl 0 (zP s).2.1).map exP ≠ [] := by simpa using psl_ne 0 (zP s).2.1
      have ex : exsT ((psl 0 (zP s).2.1).map exP) = 32 :: joinB 0 (((psl 0 (zP s).2.1).map exP).map exT) := by
        cases hp : (psl 0 (zP s).2.1).map exP with
        | nil => exact absurd hp en
        | cons x xs => rfl
      rw [ex, em, ej]
      exact e
    | false =>
      have e := (cut_f ht).1
      rw [if_neg (by simp), exsT, List.append_nil]
      exact e.symm
  unfold bodyH dateT chgC
  simp only
  rw [itoa_nm a4, itoa_nm a5, hex_pOut _ h1, f1, List.nil_append]
  conv => rhs; rw [c1, c2, c3, c4, c5, f2]
end Go.Proofs.YtfabdnpeohpgnaaDoor
namespace Go.Proofs.YtfabdnpeohpgnaaDoor
set_option linter.all false
open Go.RowKit
def gkeyedS : Spec := fun xs hp => match xs, hp with
  | [.str s], [] => some ⟨.bool (keyedB s), [], s.length ≤ 1000000000⟩
  | _, _ => none
theorem keyC_int (c : UInt8) : keyC c = (((((decide (97 ≤ (c.toNat : Int)) && decide ((c.toNat : Int) ≤ 122)) || (decide (65 ≤ (c.toNat : Int)) && decide ((c.toNat : Int) ≤ 90))) || (decide (48 ≤ (c.toNat : Int)) && decide ((c.toNat : Int) ≤ 57))) || decide ((c.toNat : Int) = 45)) || decide ((c.toNat : Int) = 95)) := by
  unfold keyC
  have h : ∀ a b : Nat, decide (a ≤ b) = decide ((a : Int) ≤ (b : Int)) := fun a b => by rw [Bool.eq_iff_iff]; simp
  have h2 : ∀ a b : Nat, decide (a = b) = decide ((a : Int) = (b : Int)) := fun a b => by rw [Bool.eq_iff_iff, decide_eq_true_eq, decide_eq_true_eq]; omega
  rw [h 97, h _ 122, h 65, h _ 90, h 48, h _ 57, h2 _ 45, h2 _ 95]
  rfl
set_option maxHeartbeats 2000000 in
theorem gkeyed_ok : FnOk Tryd.prog 23 gkeyedS := by
  refine fn_slim2 Tryd.func23 s_gkeyed (Φ := phiL []) phi_nil ?_
  intro xs hp r hs hp'
  unfold gkeyedS at hs
  split at hs
  · injection hs with hs; subst hs
    rename_i s
    have p1 : s.length ≤ 1000000000 := hp'
    refine ⟨len_le (by kernel_rfl), ?_⟩
    simp only [c_gkeyed, go_sem, Nat.reduceDiv, Nat.reduceMod, ↓reduceIte, Nat.reduceEqDiff, Nat.reduceBEq, Nat.reduceSub, Nat.reduceLT, Nat.reduceAdd, Nat.reduceLeDiff, reduceCtorEq, Int.reduceEq, Int.reduceNe, Int.reduceLT, Int.reduceLE, Int.reduceToNat]
    refine ⟨by (first | omega | (simp only [lenOk, bytesOk, inI, IntKind.bits, List.length_append, Bs_len, List.length_cons, List.length_nil, List.length_map, List.length_take, List.length_drop, List.length_replicate]; omega)), ?_⟩
    refine loop2P [] [0, 6, 7, 8] [0] (fun i : Nat => ⟨[(0, .str s), (6, .own 0 0), (7, .int .i64 (s.length : Int)), (8, .int .i64 (i : Int))], [.row 5 1 0 (Bs s)]⟩)
      (fun i => i ≤ s.length ∧ (s.take i).all keyC = true) (fun i => s.length - i) 0 (by rfl) ⟨Nat.zero_le _, by simp⟩ ⟨rfl, by rfl⟩ (fun i hi R hR => ?_)
    obtain ⟨i1, i2⟩ := hi
    by_cases hil : i < s.length
    · have c1 : decide ((i : Int) < (s.length : Int)) = true := decide_eq_true (by omega)
      have hga : s.getD i 0 = s[i] := by simp [List.getD_eq_getElem?_getD, List.getElem?_eq_getElem hil]
      have hk := keyC_int s[i]
      have hlt := s[i].toNat_lt
      have hnext : keyC s[i] = true → (s.take (i + 1)).all keyC = true := fun h => by
        rw [List.take_add_one, List.getElem?_eq_getElem hil, Option.toList_some, List.all_append, i2]; simp [h]
      have hbad : keyC s[i] = false → keyedB s = false := fun h => by
        unfold keyedB
        rw [show s.all keyC = false from List.all_eq_false.2 ⟨s[i], List.getElem_mem _, by rw [h]; simp⟩, Bool.and_false]
      generalize hn : (s[i].toNat : Int) = n at *
      have hn0 : 0 ≤ n := by omega
      have hc : n = 45 ∨ n = 95 ∨ (97 ≤ n ∧ n ≤ 122) ∨ (65 ≤ n ∧ n ≤ 90) ∨ (48 ≤ n ∧ n ≤ 57) ∨ n < 45 ∨ (45 < n ∧ n < 48) ∨ (57 < n ∧ n < 65) ∨ (90 < n ∧ n < 95) ∨ n = 96 ∨ 122 < n := by omega
      have hat : (((s.getD i 0).toNat : Nat) : Int) = n := by rw [hga]; exact hn
      rcases hc with h | h | h | h | h | h | h | h | h | h | h
      all_goals (
        first | have f1 : decide (97 ≤ n) = true := decide_eq_true (by omega) | have f1 : decide (97 ≤ n) = false := decide_eq_false (by omega)
        first | have f2 : decide (n ≤ 122) = true := decide_eq_true (by omega) | have f2 : decide (n ≤ 122) = false := decide_eq_false (by omega)
        first | have f3 : decide (65 ≤ n) = true := decide_eq_true (by omega) | have f3 : decide (65 ≤ n) = false := decide_eq_false (by omega)
        first | have f4 : decide (n ≤ 90) = true := decide_eq_true (by omega) | have f4 : decide (n ≤ 90) = false := decide_eq_false (by omega)
        first | have f5 : decide (48 ≤ n) = true := decide_eq_true (by omega) | have f5 : decide (48 ≤ n) = false := decide_eq_false (by omega)
        first | have f6 : decide (n ≤ 57) = true := decide_eq_true (by omega) | have f6 : decide (n ≤ 57) = false := decide_eq_false (by omega)
        first | have f7 : decide (n = 45) = true := decide_eq_true (by omega) | have f7 : decide (n = 45) = false := decide_eq_false (by omega)
        first | have f8 : decide (n = 95) = true := decide_eq_true (by omega) | have f8 : decide (n = 95) = false := decide_eq_false (by omega)
        rw [f1, f2, f3, f4, f5, f6, f7, f8] at hk
        simp only [Bool.and_true, Bool.and_false, Bool.or_true, Bool.or_false, Bool.true_or, Bool.false_or] at hk
        clear h
        simp only [b_gkeyed_0, r_gkeyed, c1, hat, f1, f2, f3, f4, f5, f6, f7, f8, Int.toNat_natCast, go_sem, Nat.reduceDiv, Nat.reduceMod, ↓reduceIte, Nat.reduceEqDiff, Nat.reduceBEq, Nat.reduceSub, Nat.reduceLT, Nat.reduceAdd, Nat.reduceLeDiff, reduceCtorEq, Int.reduceEq, Int.reduceNe, Int.reduceLT, Int.reduceLE, Int.reduceToNat])
      all_goals first | exact ⟨⟨by omega, by omega⟩, hil, ⟨by omega, by omega⟩, hR _ (i + 1) ⟨hil, hnext hk⟩ (by omega) rfl⟩ | exact ⟨⟨by omega, by omega⟩, hil, by rw [hbad hk]⟩
    · have c1 : decide ((i : Int) < (s.length : Int)) = false := decide_eq_false (by omega)
      rw [List.take_of_length_le (by omega)] at i2
      have hl2 : decide ((s.length : Int) ≤ 100) = decide (s.length ≤ 100) := by rw [Bool.eq_iff_iff]; simp; omega
      have hkb : keyedB s = (!decide (s = []) && decide (s.length ≤ 100)) := by unfold keyedB; rw [i2, Bool.and_true]; simp
      rw [hkb]
      cases h1 : decide (s = []) with
      | true =>
        simp only [b_gkeyed_0, t_gkeyed_0, r_gkeyed, c1, h1, hl2, Bool.not_true, Bool.false_and, go_sem, Nat.reduceDiv, Nat.reduceMod, ↓reduceIte, Nat.reduceEqDiff, Nat.reduceBEq, Nat.reduceSub, Nat.reduceLT, Nat.reduceAdd, Nat.reduceLeDiff, reduceCtorEq, Int.reduceEq, Int.reduceNe, Int.reduceLT, Int.reduceLE, Int.reduceToNat]
      | false =>
        simp only [b_gkeyed_0, t_gkeyed_0, r_gkeyed, c1, h1, hl2, Bool.not_false, Bool.true_and, go_sem, Nat.reduceDiv, Nat.reduceMod, ↓reduceIte, Nat.reduceEqDiff, Nat.reduceBEq, Nat.reduceSub, Nat.reduceLT, Nat.reduceAdd, Nat.reduceLeDiff, reduceCtorEq, Int.reduceEq, Int.reduceNe, Int.reduceLT, Int.reduceLE, Int.reduceToNat]
  · cases hs
def gtoldS : Spec := fun xs hp => match xs, hp with
  | [.str s], [] => some ⟨.str (tolL s), [], s.length ≤ 100000000⟩
  | _, _ => none
theorem tol_take (s : List UInt8) {i : Nat} (h : i < s.length) : tolL (s.take (i + 1)) = tolL (s.take i) ++ escC s[i] := by
  unfold tolL
  rw [List.take_add_one, List.getElem?_eq_getElem h, Option.toList_some, List.flatMap_append, List.flatMap_cons, List.flatMap_nil, List.append_nil]
theorem tol_len (s : List UInt8) : (tolL s).length ≤ 2 * s.length := by
  unfold tolL
  induction s with
  | nil => simp
  | cons c s ih =>
    rw [List.flatMap_cons, List.length_append, List.length_cons]
    have : (escC c).length ≤ 2 := by unfold escC; repeat' split
                                     all_goals simp
    omega
theorem tol_take_len (s : List UInt8) (i : Nat) : (tolL (s.take i)).length ≤ 2 * s.length := by
  have h1 := tol_len (s.take i)
  rw [List.length_take] at h1; omega
def bldX (i : Nat) : AV := if i = 0 then .con (.pointer none) else .ref 0 0 0
theorem bldX_or (i : Nat) : bldX i = .con (.pointer none) ∨ bldX i = .ref 0 0 0 := by
  unfold bldX; split
  · exact .inl rfl
  · exact .inr rfl
def phiB : Phi := phiL [(27, [], bwsS), (28, [], bwbS), (29, [], bstrS)]
theorem phiB_ok : PhiOk Tryd.prog phiB := phi_cons bws_ok (by kernel_rfl) (phi_cons bwb_ok (by kernel_rfl) (phi_cons bstr_ok (by kernel_rfl) phi_nil))
theorem phiB_1 : phiB 27 = some ([], bwsS) := rfl
theorem phiB_2 : phiB 28 = some ([], bwbS) := rfl
theorem phiB_3 : phiB 29 = some ([], bstrS) := rfl
set_option maxHeartbeats 2000000 in
theorem gtold_ok : FnOk Tryd.prog 15 gtoldS := by
  refine fn_slim2 Tryd.func15 s_gtold phiB_ok ?_
  intro xs hp r hs hp'
  unfold gtoldS at hs
  split at hs
  · injection hs with hs; subst hs
    rename_i s
    have p1 : s.length ≤ 100000000 := hp'
    refine ⟨len_le (by kernel_rfl), ?_⟩
    simp only [c_gtold, go_sem, Nat.reduceDiv, Nat.reduceMod, ↓reduceIte, Nat.reduceEqDiff, Nat.reduceBEq, Nat.reduceSub, Nat.reduceLT, Nat.reduceAdd, Nat.reduceLeDiff, reduceCtorEq, Int.reduceEq, Int.reduceNe, Int.reduceLT, Int.reduceLE, Int.reduceToNat]
    refine ⟨by (first | omega | (simp only [lenOk, bytesOk, inI, IntKind.bits, List.length_append, Bs_len, List.length_cons, List.length_nil, List.length_map, List.length_take, List.length_drop, List.length_replicate]; omega)), ?_⟩
    refine loop2P [(4097, 5, 1)] [0, 3, 7, 8, 9] [0, 1, 2] (fun i : Nat => ⟨[(0, .str s), (3, .ref 0 0 0), (7, .own 1 0), (8, .int .i64 (s.length : Int)), (9, .int .i64 (i : Int))],
      [.cells 70 [(1, bldX i), (1, .own 2 i)], .row 5 1 0 (Bs s), .row 5 1 i (Bs (tolL (s.take i)))]⟩)
      (fun i => i ≤ s.length) (fun i => s.length - i) 0 (by rfl) (Nat.zero_le _) ⟨rfl, by rfl⟩ (fun i hi R hR => ?_)
    have hX0 : selfX (.con (.pointer none)) = true := rfl
    have hX1 : selfX (.ref 0 0 0) = true := rfl
    by_cases hil : i < s.length
    · have c1 : decide ((i : Int) < (s.length : Int)) = true := decide_eq_true (by omega)
      have hga : s.getD i 0 = s[i] := by simp [List.getD_eq_getElem?_getD, List.getElem?_eq_getElem hil]
      have htk := tol_take s hil
      have htl := tol_take_len s i
      have htl2 := tol_take_len s (i + 1)
      have hb1 : bldX (i + 1) = .ref 0 0 0 := rfl
      generalize hc : s[i] = c at *
      have hcn : ∀ k : UInt8, decide (((c.toNat : Nat) : Int) = ((k.toNat : Nat) : Int)) = decide (c = k) := fun k => by
        rw [Bool.eq_iff_iff, decide_eq_true_eq, decide_eq_true_eq]
        constructor
        · intro h; exact UInt8.toNat_inj.1 (by omega)
        · rintro rfl; rfl
      have g1 := hcn 92
      have g2 := hcn 10
      have g3 := hcn 13
      have g4 := hcn 0
      have g1 : decide (((c.toNat : Nat) : Int) = 92) = decide (c = 92) := g1
      have g2 : decide (((c.toNat : Nat) : Int) = 10) = decide (c = 10) := g2
      have g3 : decide (((c.toNat : Nat) : Int) = 13) = decide (c = 13) := g3
      have g4 : decide (((c.toNat : Nat) : Int) = 0) = decide (c = 0) := g4
      have fin : ∀ e : List UInt8, escC c = e → tolL (s.take (i + 1)) = tolL (s.take i) ++ e := fun e he => by rw [htk, he]
      rcases bldX_or i with hbi | hbi
      all_goals (
        by_cases h1 : c = 92
        · have d1 : decide (c = 92) = true := decide_eq_true h1
          have e := fin [92, 92] (by rw [h1]; rfl)
          simp only [b_gtold_0, hbi, c1, hga, g1, d1, phiB_1, bwsS, hX0, hX1, if_true, Int.toNat_natCast, go_sem, Nat.reduceDiv, Nat.reduceMod, ↓reduceIte, Nat.reduceEqDiff, Nat.reduceBEq, Nat.reduceSub, Nat.reduceLT, Nat.reduceAdd, Nat.reduceLeDiff, reduceCtorEq, Int.reduceEq, Int.reduceNe, Int.reduceLT, Int.reduceLE, Int.reduceToNat]
          exact ⟨⟨by omega, by omega⟩, hil, by (first | omega | (simp only [lenOk, bytesOk, inI, IntKind.bits, List.length_append, Bs_len, List.length_cons, List.length_nil, List.length_map, List.length_take, List.length_drop, List.length_replicate]; omega)), ⟨by omega, by omega⟩, hR _ (i + 1) hil (by omega) (by simp only [hb1, e, ← Bs_app]; rfl)⟩
        have d1 : decide (c = 92) = false := decide_eq_false h1
        by_cases h2 : c = 10
        · have d2 : decide (c = 10) = true := decide_eq_true h2
          have e := fin [92, 110] (by rw [h2]; rfl)
          simp only [b_gtold_0, hbi, c1, hga, g1, d1, g2, d2, phiB_1, bwsS, hX0, hX1, if_true, Int.toNat_natCast, go_sem, Nat.reduceDiv, Nat.reduceMod, ↓reduceIte, Nat.reduceEqDiff, Nat.reduceBEq, Nat.reduceSub, Nat.reduceLT, Nat.reduceAdd, Nat.reduceLeDiff, reduceCtorEq, Int.reduceEq, Int.reduceNe, Int.reduceLT, Int.reduceLE, Int.reduceToNat]
          exact ⟨⟨by omega, by omega⟩, hil, by (first | omega | (simp only [lenOk, bytesOk, inI, IntKind.bits, List.length_append, Bs_len, List.length_cons, List.length_nil, List.length_map, List.length_take, List.length_drop, List.length_replicate]; omega)), ⟨by omega, by omega⟩, hR _ (i + 1) hil (by omega) (by simp only [hb1, e, ← Bs_app]; rfl)⟩
        have d2 : decide (c = 10) = false := decide_eq_false h2
        by_cases h3 : c = 13
        · have d3 : decide (c = 13) = true := decide_eq_true h3
          have e := fin [92, 114] (by rw [h3]; rfl)
          simp only [b_gtold_0, hbi, c1, hga, g1, d1, g2, d2, g3, d3, phiB_1, bwsS, hX0, hX1, if_true, Int.toNat_natCast, go_sem, Nat.reduceDiv, Nat.reduceMod, ↓reduceIte, Nat.reduceEqDiff, Nat.reduceBEq, Nat.reduceSub, Nat.reduceLT, Nat.reduceAdd, Nat.reduceLeDiff, reduceCtorEq, Int.reduceEq, Int.reduceNe, Int.reduceLT, Int.reduceLE, Int.reduceToNat]
          exact ⟨⟨by omega, by omega⟩, hil, by (first | omega | (simp only [lenOk, bytesOk, inI, IntKind.bits, List.length_append, Bs_len, List.length_cons, List.length_nil, List.length_map, List.length_take, List.length_drop, List.length_replicate]; omega)), ⟨by omega, by omega⟩, hR _ (i + 1) hil (by omega) (by simp only [hb1, e, ← Bs_app]; rfl)⟩
        have d3 : decide (c = 13) = false := decide_eq_false h3
        by_cases h4 : c = 0
        · have d4 : decide (c = 0) = true := decide_eq_true h4
          have e := fin [92, 48] (by rw [h4]; rfl)
          simp only [b_gtold_0, hbi, c1, hga, g1, d1, g2, d2, g3, d3, g4, d4, phiB_1, bwsS, hX0, hX1, if_true, Int.toNat_natCast, go_sem, Nat.reduceDiv, Nat.reduceMod, ↓reduceIte, Nat.reduceEqDiff, Nat.reduceBEq, Nat.reduceSub, Nat.reduceLT, Nat.reduceAdd, Nat.reduceLeDiff, reduceCtorEq, Int.reduceEq, Int.reduceNe, Int.reduceLT, Int.reduceLE, Int.reduceToNat]
          exact ⟨⟨by omega, by omega⟩, hil, by (first | omega | (simp only [lenOk, bytesOk, inI, IntKind.bits, List.length_append, Bs_len, List.length_cons, List.length_nil, List.length_map, List.length_take, List.length_drop, List.length_replicate]; omega)), ⟨by omega, by omega⟩, hR _ (i + 1) hil (by omega) (by simp only [hb1, e, ← Bs_app]; rfl)⟩
        have d4 : decide (c = 0) = false := decide_eq_false h4
        have e := fin [c] (by unfold escC; rw [if_neg h1, if_neg h2, if_neg h3, if_neg h4])
        simp only [b_gtold_0, hbi, c1, hga, g1, d1, g2, d2, g3, d3, g4, d4, phiB_2, bwbS, hX0, hX1, if_true, Int.toNat_natCast, go_sem, Nat.reduceDiv, Nat.reduceMod, ↓reduceIte, Nat.reduceEqDiff, Nat.reduceBEq, Nat.reduceSub, Nat.reduceLT, Nat.reduceAdd, Nat.reduceLeDiff, reduceCtorEq, Int.reduceEq, Int.reduceNe, Int.reduceLT, Int.reduceLE, Int.reduceToNat]
        exact ⟨⟨by omega, by omega⟩, hil, by (first | omega | (simp only [lenOk, bytesOk, inI, IntKind.bits, List.length_append, Bs_len, List.length_cons, List.length_nil, List.length_map, List.length_take, List.length_drop, List.length_replicate]; omega)), ⟨by omega, by omega⟩, hR _ (i + 1) hil (by omega) (by simp only [hb1, e, ← Bs_push]; rfl)⟩)
    · have c1 : decide ((i : Int) < (s.length : Int)) = false := decide_eq_false (by omega)
      obtain rfl : i = s.length := by omega
      rw [List.take_length]
      rcases bldX_or s.length with hbi | hbi
      all_goals simp only [b_gtold_0, t_gtold_0, r_gtold, hbi, c1, phiB_3, bstrS, unB_Bs, if_true, go_sem, Nat.reduceDiv, Nat.reduceMod, ↓reduceIte, Nat.reduceEqDiff, Nat.reduceBEq, Nat.reduceSub, Nat.reduceLT, Nat.reduceAdd, Nat.reduceLeDiff, reduceCtorEq, Int.reduceEq, Int.reduceNe, Int.reduceLT, Int.reduceLE, Int.reduceToNat]
  · cases hs
end Go.Proofs.YtfabdnpeohpgnaaDoor
namespace Go.Proofs.YtfabdnpeohpgnaaDoor
set_option linter.all false
open Go.RowKit
def gmeantS : Spec := fun xs hp => match xs, hp with
  | [.str s], [] => some ⟨.str (meaL s), [], s.length ≤ 100000000⟩
  | _, _ => none
theorem mea_len : ∀ s : List UInt8, (meaL s).length ≤ s.length
  | [] => Nat.le_refl _
  | [c] => Nat.le_refl _
  | c :: d :: r => by
    rw [meaL]
    split
    · have := mea_len r; simp only [List.length_cons]; omega
    · have := mea_len (d :: r); simp only [List.length_cons] at this ⊢; omega
theorem at8_nat {l : List UInt8} {i : Nat} (h : i < l.length) : at8 l i = ((l[i].toNat : Nat) : Int) := by
  unfold at8; rw [List.getD_eq_getElem?_getD, List.getElem?_eq_getElem h]; rfl
theorem u8_eq (c k : UInt8) : decide (((c.toNat : Nat) : Int) = ((k.toNat : Nat) : Int)) = decide (c = k) := by
  rw [Bool.eq_iff_iff, decide_eq_true_eq, decide_eq_true_eq]
  constructor
  · intro h; exact UInt8.toNat_inj.1 (by omega)
  · rintro rfl; rfl
set_option maxHeartbeats 2000000 in
theorem gmeant_ok : FnOk Tryd.prog 36 gmeantS := by
  refine fn_slim2 Tryd.func36 s_gmeant phiB_ok ?_
  intro xs hp r hs hp'
  unfold gmeantS at hs
  split at hs
  · injection hs with hs; subst hs
    rename_i s
    have p1 : s.length ≤ 100000000 := hp'
    refine ⟨len_le (by kernel_rfl), ?_⟩
    simp only [c_gmeant, go_sem, Nat.reduceDiv, Nat.reduceMod, ↓reduceIte, Nat.reduceEqDiff, Nat.reduceBEq, Nat.reduceSub, Nat.reduceLT, Nat.reduceAdd, Nat.reduceLeDiff, reduceCtorEq, Int.reduceEq, Int.reduceNe, Int.reduceLT, Int.reduceLE, Int.reduceToNat]
    have hml := mea_len s
    refine loop2P [(4097, 5, 1)] [0, 3, 4] [0, 1] (fun q : Nat × Nat × List UInt8 => ⟨[(0, .str s), (3, .ref 0 0 0), (4, .int .i64 (q.1 : Int))],
      [.cells 70 [(1, bldX q.2.1), (1, .own 1 q.2.1)], .row 5 1 q.2.1 (Bs q.2.2)]⟩)
      (fun q => q.1 ≤ s.length ∧ q.2.2 ++ meaL (s.drop q.1) = meaL s) (fun q => s.length - q.1) (0, 0, []) (by rfl) ⟨Nat.zero_le _, rfl⟩ ⟨rfl, by rfl⟩ (fun q hq R hR => ?_)
    obtain ⟨i, v, w⟩ := q
    simp only at hq hR ⊢
    obtain ⟨i1, i2⟩ := hq
    have hX0 : selfX (.con (.pointer none)) = true := rfl
    have hX1 : selfX (.ref 0 0 0) = true := rfl
    have hb1 : bldX (v + 1) = .ref 0 0 0 := rfl
    have hwl : w.length ≤ s.length := by have := congrArg List.length i2; rw [List.length_append] at this; omega
    have hb : ∀ u : UInt8, Bs w ++ [AV.int .u8 ((u.toNat : Nat) : Int)] = Bs (w ++ [u]) := fun u => Bs_push
    have hb10 : Bs w ++ [AV.int .u8 10] = Bs (w ++ [10]) := hb 10
    have hb13 : Bs w ++ [AV.int .u8 13] = Bs (w ++ [13]) := hb 13
    have hb00 : Bs w ++ [AV.int .u8 0] = Bs (w ++ [0]) := hb 0
    by_cases hil : i < s.length
    · have c1 : decide ((i : Int) < (s.length : Int)) = true := decide_eq_true (by omega)
      have hd : s.drop i = s[i] :: s.drop (i + 1) := List.drop_eq_getElem_cons hil
      have hat := at8_nat hil
      have e1 : ((i : Int) + 1).toNat = i + 1 := by omega
      rw [hd] at i2
      generalize hc : s[i] = c at *
      have g1 : decide (((c.toNat : Nat) : Int) = 92) = decide (c = 92) := u8_eq c 92
      by_cases h1 : c = 92
      · have d1 : decide (c = 92) = true := decide_eq_true h1
        by_cases hl2 : i + 1 < s.length
        · have c2 : decide ((i : Int) + 1 = (s.length : Int)) = false := decide_eq_false (by omega)
          have hat2 := at8_nat hl2
          have hd2 : s.drop (i + 1) = s[i + 1] :: s.drop (i + 1 + 1) := List.drop_eq_getElem_cons hl2
          rw [hd2, h1, mea_pair] at i2
          generalize hdd : s[i + 1] = d at *
          have k1 : decide (((d.toNat : Nat) : Int) = 110) = decide (d = 110) := u8_eq d 110
          have k2 : decide (((d.toNat : Nat) : Int) = 114) = decide (d = 114) := u8_eq d 114
          have k3 : decide (((d.toNat : Nat) : Int) = 48) = decide (d = 48) := u8_eq d 48
          have fin : ∀ e : UInt8, meC d = e → (w ++ [e]) ++ meaL (s.drop (i + 1 + 1)) = meaL s := fun e he => by rw [← i2, he]; simp
          rcases bldX_or v with hbi | hbi
          all_goals (
            by_cases m1 : d = 110
            · have j1 : decide (d = 110) = true := decide_eq_true m1
              have e := fin 10 (by rw [m1]; rfl)
              simp only [b_gmeant_0, hbi, c1, c2, hat, hat2, g1, d1, k1, j1, e1, phiB_2, bwbS, hX0, hX1, if_true, Int.toNat_natCast, go_sem, Nat.reduceDiv, Nat.reduceMod, ↓reduceIte, Nat.reduceEqDiff, Nat.reduceBEq, Nat.reduceSub, Nat.reduceLT, Nat.reduceAdd, Nat.reduceLeDiff, reduceCtorEq, Int.reduceEq, Int.reduceNe, Int.reduceLT, Int.reduceLE, Int.reduceToNat]
              exact ⟨⟨by omega, by omega⟩, ⟨by omega, by omega⟩, ⟨by omega, by omega⟩, ⟨by omega, by omega⟩, by (first | omega | (simp only [lenOk, bytesOk, inI, IntKind.bits, List.length_append, Bs_len, List.length_cons, List.length_nil, List.length_map, List.length_take, List.length_drop, List.length_replicate]; omega)), ⟨by omega, by omega⟩, hR _ (i + 1 + 1, v + 1, w ++ [10]) ⟨by simp only; omega, e⟩ (by simp only; omega) (by simp only [hb1, hb10]; rfl)⟩
            have j1 : decide (d = 110) = false := decide_eq_false m1
            by_cases m2 : d = 114
            · have j2 : decide (d = 114) = true := decide_eq_true m2
              have e := fin 13 (by rw [m2]; rfl)
              simp only [b_gmeant_0, hbi, c1, c2, hat, hat2, g1, d1, k1, j1, k2, j2, e1, phiB_2, bwbS, hX0, hX1, if_true, Int.toNat_natCast, go_sem, Nat.reduceDiv, Nat.reduceMod, ↓reduceIte, Nat.reduceEqDiff, Nat.reduceBEq, Nat.reduceSub, Nat.reduceLT, Nat.reduceAdd, Nat.reduceLeDiff, reduceCtorEq, Int.reduceEq, Int.reduceNe, Int.reduceLT, Int.reduceLE, Int.reduceToNat]
              exact ⟨⟨by omega, by omega⟩, ⟨by omega, by omega⟩, ⟨by omega, by omega⟩, ⟨by omega, by omega⟩, by (first | omega | (simp only [lenOk, bytesOk, inI, IntKind.bits, List.length_append, Bs_len, List.length_cons, List.length_nil, List.length_map, List.length_take, List.length_drop, List.length_replicate]; omega)), ⟨by omega, by omega⟩, hR _ (i + 1 + 1, v + 1, w ++ [13]) ⟨by simp only; omega, e⟩ (by simp only; omega) (by simp only [hb1, hb13]; rfl)⟩
            have j2 : decide (d = 114) = false := decide_eq_false m2
            by_cases m3 : d = 48
            · have j3 : decide (d = 48) = true := decide_eq_true m3
              have e := fin 0 (by rw [m3]; rfl)
              simp only [b_gmeant_0, hbi, c1, c2, hat, hat2, g1, d1, k1, j1, k2, j2, k3, j3, e1, phiB_2, bwbS, hX0, hX1, if_true, Int.toNat_natCast, go_sem, Nat.reduceDiv, Nat.reduceMod, ↓reduceIte, Nat.reduceEqDiff, Nat.reduceBEq, Nat.reduceSub, Nat.reduceLT, Nat.reduceAdd, Nat.reduceLeDiff, reduceCtorEq, Int.reduceEq, Int.reduceNe, Int.reduceLT, Int.reduceLE, Int.reduceToNat]
              exact ⟨⟨by omega, by omega⟩, ⟨by omega, by omega⟩, ⟨by omega, by omega⟩, ⟨by omega, by omega⟩, by (first | omega | (simp only [lenOk, bytesOk, inI, IntKind.bits, List.length_append, Bs_len, List.length_cons, List.length_nil, List.length_map, List.length_take, List.length_drop, List.length_replicate]; omega)), ⟨by omega, by omega⟩, hR _ (i + 1 + 1, v + 1, w ++ [0]) ⟨by simp only; omega, e⟩ (by simp only; omega) (by simp only [hb1, hb00]; rfl)⟩
            have j3 : decide (d = 48) = false := decide_eq_false m3
            have e := fin d (by unfold meC; rw [if_neg m1, if_neg m2, if_neg m3])
            simp only [b_gmeant_0, hbi, c1, c2, hat, hat2, g1, d1, k1, j1, k2, j2, k3, j3, e1, phiB_2, bwbS, hX0, hX1, if_true, Int.toNat_natCast, go_sem, Nat.reduceDiv, Nat.reduceMod, ↓reduceIte, Nat.reduceEqDiff, Nat.reduceBEq, Nat.reduceSub, Nat.reduceLT, Nat.reduceAdd, Nat.reduceLeDiff, reduceCtorEq, Int.reduceEq, Int.reduceNe, Int.reduceLT, Int.reduceLE, Int.reduceToNat]
            exact ⟨⟨by omega, by omega⟩, ⟨by omega, by omega⟩, ⟨by omega, by omega⟩, ⟨by omega, by omega⟩, ⟨by omega, by omega⟩, by (first | omega | (simp only [lenOk, bytesOk, inI, IntKind.bits, List.length_append, Bs_len, List.length_cons, List.length_nil, List.length_map, List.length_take, List.length_drop, List.length_replicate]; omega)), ⟨by omega, by omega⟩, hR _ (i + 1 + 1, v + 1, w ++ [d]) ⟨by simp only; omega, e⟩ (by simp only; omega) (by simp only [hb1, hb]; rfl)⟩)
        · have c2 : decide ((i : Int) + 1 = (s.length : Int)) = true := decide_eq_true (by omega)
          have hd2 : s.drop (i + 1) = [] := List.drop_of_length_le (by omega)
          rw [hd2] at i2
          have e : (w ++ [c]) ++ meaL (s.drop (i + 1)) = meaL s := by rw [hd2, ← i2]; simp [meaL]
          rcases bldX_or v with hbi | hbi
          all_goals (
            simp only [b_gmeant_0, hbi, c1, c2, hat, g1, d1, phiB_2, bwbS, hX0, hX1, if_true, Int.toNat_natCast, go_sem, Nat.reduceDiv, Nat.reduceMod, ↓reduceIte, Nat.reduceEqDiff, Nat.reduceBEq, Nat.reduceSub, Nat.reduceLT, Nat.reduceAdd, Nat.reduceLeDiff, reduceCtorEq, Int.reduceEq, Int.reduceNe, Int.reduceLT, Int.reduceLE, Int.reduceToNat]
            exact ⟨⟨by omega, by omega⟩, ⟨by omega, by omega⟩, ⟨by omega, by omega⟩, by (first | omega | (simp only [lenOk, bytesOk, inI, IntKind.bits, List.length_append, Bs_len, List.length_cons, List.length_nil, List.length_map, List.length_take, List.length_drop, List.length_replicate]; omega)), ⟨by omega, by omega⟩, hR _ (i + 1, v + 1, w ++ [c]) ⟨hil, e⟩ (by simp only; omega) (by simp only [hb1, hb]; rfl)⟩)
      · have d1 : decide (c = 92) = false := decide_eq_false h1
        rw [mea_other h1] at i2
        rcases bldX_or v with hbi | hbi
        all_goals (
          simp only [b_gmeant_0, hbi, c1, hat, g1, d1, phiB_2, bwbS, hX0, hX1, if_true, Int.toNat_natCast, go_sem, Nat.reduceDiv, Nat.reduceMod, ↓reduceIte, Nat.reduceEqDiff, Nat.reduceBEq, Nat.reduceSub, Nat.reduceLT, Nat.reduceAdd, Nat.reduceLeDiff, reduceCtorEq, Int.reduceEq, Int.reduceNe, Int.reduceLT, Int.reduceLE, Int.reduceToNat]
          exact ⟨⟨by omega, by omega⟩, ⟨by omega, by omega⟩, by (first | omega | (simp only [lenOk, bytesOk, inI, IntKind.bits, List.length_append, Bs_len, List.length_cons, List.length_nil, List.length_map, List.length_take, List.length_drop, List.length_replicate]; omega)), ⟨by omega, by omega⟩, hR _ (i + 1, v + 1, w ++ [c]) ⟨hil, by rw [← i2]; simp⟩ (by simp only; omega) (by simp only [hb1, hb]; rfl)⟩)
    · have c1 : decide ((i : Int) < (s.length : Int)) = false := decide_eq_false (by omega)
      rw [List.drop_of_length_le (by omega)] at i2
      have i2 : w = meaL s := by rw [← i2]; simp [meaL]
      subst i2
      rcases bldX_or v with hbi | hbi
      all_goals simp only [b_gmeant_0, t_gmeant_0, r_gmeant, hbi, c1, phiB_3, bstrS, unB_Bs, if_true, go_sem, Nat.reduceDiv, Nat.reduceMod, ↓reduceIte, Nat.reduceEqDiff, Nat.reduceBEq, Nat.reduceSub, Nat.reduceLT, Nat.reduceAdd, Nat.reduceLeDiff, reduceCtorEq, Int.reduceEq, Int.reduceNe, Int.reduceLT, Int.reduceLE, Int.reduceToNat]
  · cases hs
end Go.Proofs.YtfabdnpeohpgnaaDoor
namespace Go.Proofs.YtfabdnpeohpgnaaDoor
set_option linter.all false
open Go.RowKit
open Go.Lib (index hasPrefix trimPrefix cut indexAny)
def cutPreS : Spec := fun xs hp => match xs, hp with
  | [.str s, .str p], [] => some ⟨.tup [.str (trimPrefix s p), .bool (hasPrefix s p)], [], True⟩
  | _, _ => none
theorem cutPre_ok : FnOk Tryd.prog 33 cutPreS := by
  refine fnok_of_calls fun xs0 hp r hs hp' => ?_
  unfold cutPreS at hs
  split at hs
  · rename_i s p
    injection hs with hs; subst hs
    refine ⟨rfl, rfl, fun w S ρ args hS ha => ?_⟩
    obtain ⟨v, vs, rfl, hv, hr⟩ := ha.get _ _ rfl
    obtain ⟨u, us, rfl, hu, hr⟩ := hr.get _ _ rfl
    obtain rfl := hr.none
    rw [hv.str, hu.str]
    refine (Tryd.strings_CutPrefix ⟨s.toArray⟩ ⟨p.toArray⟩ w).mono ?_
    rintro e w' ⟨rfl, rfl⟩
    exact ⟨_, rfl, Below.refl _ _, fun _ _ _ => Vl.tup2 (Vl.str' _) (Vl.bool' _)⟩
  · cases hs
end Go.Proofs.YtfabdnpeohpgnaaDoor
namespace Go.Proofs.YtfabdnpeohpgnaaDoor
set_option linter.all false
open Go.RowKit
open Go.Lib (index hasPrefix trimPrefix cut indexAny)
theorem maxLen_cell {w : World} {S : Nat → Prop} (h : GlobOk w S) : ∃ m, w.cell? ⟨0, 0, none⟩ = some (.int .i64 m) := (h.2 0 (by kernel_rfl)).2
def cutS : Spec := fun xs hp => match xs, hp with
  | [.str s, .str p], [] => some ⟨.tup [.str (cut s p).1, .str (cut s p).2.1, .bool (cut s p).2.2], [], s.length < 4294967281⟩
  | _, _ => none
theorem cut_ok : FnOk Tryd.prog 20 cutS := by
  refine fnok_of_calls fun xs0 hp r hs hp' => ?_
  unfold cutS at hs
  split at hs
  · rename_i s p
    injection hs with hs; subst hs
    refine ⟨rfl, rfl, fun w S ρ args hS ha => ?_⟩
    obtain ⟨m, hm⟩ := maxLen_cell ha.glob
    obtain ⟨v, vs, rfl, hv, hr⟩ := ha.get _ _ rfl
    obtain ⟨u, us, rfl, hu, hr⟩ := hr.get _ _ rfl
    obtain rfl := hr.none
    rw [hv.str, hu.str]
    refine (Tryd.strings_Cut ⟨s.toArray⟩ ⟨p.toArray⟩ m w (by rw [Lib.size_eq]; exact hp') hm).mono ?_
    rintro e w' ⟨rfl, n, rfl⟩
    exact ⟨_, rfl, belowN (Below.refl _ _) n, fun _ _ _ => Vl.tup3 (Vl.str' _) (Vl.str' _) (Vl.bool' _)⟩
  · cases hs
end Go.Proofs.YtfabdnpeohpgnaaDoor
namespace Go.Proofs.YtfabdnpeohpgnaaDoor
set_option linter.all false
open Go.RowKit
open Go.Lib (index hasPrefix trimPrefix cut indexAny)
theorem css_strs {w : World} {S : Nat → Prop} {ρ : Rho} : ∀ ps : List (List UInt8), Css w S ρ (prs 1 (ps.map AV.str)) (ps.map fun l => Value.string ⟨l.toArray⟩)
  | [] => rfl
  | l :: ps => ⟨[_], _, rfl, rfl, .str l, css_strs ps⟩
def splitS : Spec := fun xs hp => match xs, hp with
  | [.str s, .str [c]], [] => some ⟨.own 0 0, [.row 9 1 0 ((psl c s).map AV.str)], s.length < 4294967281⟩
  | _, _ => none
theorem split_ok : FnOk Tryd.prog 35 splitS := by
  refine fnok_row fun xs0 hp r hs hp' => ?_
  unfold splitS at hs
  split at hs
  · rename_i s c
    injection hs with hs; subst hs
    refine ⟨rfl, _, _, _, rfl, rfl, fun w S ρ args hS ha => ?_⟩
    obtain ⟨m, hm⟩ := maxLen_cell ha.glob
    obtain ⟨v, vs, rfl, hv, hr⟩ := ha.get _ _ rfl
    obtain ⟨u, us, rfl, hu, hr⟩ := hr.get _ _ rfl
    obtain rfl := hr.none
    rw [hv.str, hu.str]
    refine (Tryd.strings_Split ⟨s.toArray⟩ ⟨[c].toArray⟩ m w (by rw [Lib.size_eq]; exact hp') hm (Nat.le_refl 1)).mono ?_
    rintro e w' ⟨rfl, rfl⟩
    have e1 : (Lib.splitB ⟨[c].toArray⟩ 0 (Lib.countB ⟨s.toArray⟩ ⟨[c].toArray⟩) ⟨s.toArray⟩).map (·.data.toList) = psl c s := by
      rw [Lib.splitB_data]; exact splitK_psl c s
    obtain ⟨X, hX⟩ : ∃ X, Lib.splitB ⟨[c].toArray⟩ 0 (Lib.countB ⟨s.toArray⟩ ⟨[c].toArray⟩) ⟨s.toArray⟩ = X := ⟨_, rfl⟩
    have e2 : X.length = Lib.countB ⟨s.toArray⟩ ⟨[c].toArray⟩ + 1 := by rw [← hX]; exact Lib.splitB_all ⟨[c].toArray⟩ (Nat.le_refl 1) 0 _ _ rfl
    rw [hX] at e1
    have e3 : X.map Value.string = (psl c s).map fun l => Value.string ⟨l.toArray⟩ := by
      rw [← e1, List.map_map]
      refine List.map_congr_left fun x _ => ?_
      simp only [Function.comp_apply, of_bs]
    have e4 : (psl c s).length = Lib.countB ⟨s.toArray⟩ ⟨[c].toArray⟩ + 1 := by rw [← e1, List.length_map, e2]
    have e5 := psl_join_len c s
    have hp2 : s.length < 4294967281 := hp'
    rw [hX, e3, ← e4]
    refine ⟨w.heap.size, _, _, _, ((psl c s).map fun l => Value.string ⟨l.toArray⟩).toArray, (0, 0), rfl, (Below.refl _ _).alloc (Nat.le_refl _) _, Nat.le_refl _, ?_, .inl rfl, Nat.le_refl _, by omega, by simp, ?_, by simp, by simp, css_strs _⟩
    · show (w.heap.push (Obj.cells _ _ _))[w.heap.size]? = _
      simp
    · rw [List.take_of_length_le (by simp)]
  · cases hs
end Go.Proofs.YtfabdnpeohpgnaaDoor
namespace Go.Proofs.YtfabdnpeohpgnaaDoor
set_option linter.all false
open Go.RowKit
open Go.Lib (index hasPrefix trimPrefix cut indexAny itoa)
def glineS : Spec := fun xs hp => match xs, hp with
  | [.ref 0 0 0], [.cells T [(1, .str s), (1, .bool b)]] => some ⟨.str (cut s [10]).1, [.cells T [(1, .str (cut s [10]).2.1), (1, .bool (b || !(cut s [10]).2.2))]], s.length < 4294967281⟩
  | _, _ => none
theorem gline_ok : FnOk Tryd.prog 19 glineS := by
  refine fn_slim2 Tryd.func19 s_gline (Φ := phiL [(20, [], cutS)]) (phi_cons cut_ok (by kernel_rfl) phi_nil) ?_
  intro xs hp r hs hp'
  unfold glineS at hs
  split at hs
  · injection hs with hs; subst hs
    rename_i T s b
    refine ⟨len_le (by kernel_rfl), ?_⟩
    cases b with
    | true =>
      simp only [c_gline, r_gline, cutS, Bool.true_or, go_sem, Nat.reduceDiv, Nat.reduceMod, ↓reduceIte, Nat.reduceEqDiff, Nat.reduceBEq, Nat.reduceSub, Nat.reduceLT, Nat.reduceAdd, Nat.reduceLeDiff, reduceCtorEq, Int.reduceEq, Int.reduceNe, Int.reduceLT, Int.reduceLE, Int.reduceToNat]
      exact hp'
    | false =>
      simp only [c_gline, r_gline, cutS, Bool.false_or, go_sem, Nat.reduceDiv, Nat.reduceMod, ↓reduceIte, Nat.reduceEqDiff, Nat.reduceBEq, Nat.reduceSub, Nat.reduceLT, Nat.reduceAdd, Nat.reduceLeDiff, reduceCtorEq, Int.reduceEq, Int.reduceNe, Int.reduceLT, Int.reduceLE, Int.reduceToNat]
      exact hp'
  · cases hs
theorem pre_head (s : List UInt8) : hasPrefix s [45] = decide (s.head? = some 45) := by
  cases s with
  | nil => rfl
  | cons c t =>
    show (([45] : List UInt8).isPrefixOf (c :: t)) = _
    rw [Bool.eq_iff_iff]; simp [List.isPrefixOf]
    exact eq_comm
noncomputable def gnumS : Spec := fun xs hp => match xs, hp with
  | [.ref 0 0 0, .str s], [.cells T [(1, .str r), (1, .bool b)]] => some ⟨.int .i64 (nmV s), [.cells T [(1, .str r), (1, .bool (b || !nmB s))]], s.length ≤ 1000000⟩
  | _, _ => none
set_option maxHeartbeats 2000000 in
theorem gnum_ok : FnOk Tryd.prog 21 gnumS := by
  refine fn_slim2 Tryd.func21 s_gnum (Φ := phiL [(33, [], cutPreS), (34, [], fdecS)]) (phi_cons cutPre_ok (by kernel_rfl) (phi_cons fdec_ok (by kernel_rfl) phi_nil)) ?_
  intro xs hp r hs hp'
  unfold gnumS at hs
  split at hs
  · injection hs with hs; subst hs
    rename_i s T rr b
    have p1 : s.length ≤ 1000000 := hp'
    refine ⟨len_le (by kernel_rfl), ?_⟩
    have hph := pre_head s
    have hdl : (s.drop 1).length ≤ s.length := by rw [List.length_drop]; omega
    have lt1 := decN_lt (s.drop 1)
    cases h1 : decide (s.head? = some 45) with
    | true =>
      have h1' := of_decide_eq_true h1
      rw [h1] at hph
      have ht : trimPrefix s [45] = s.drop 1 := by
        cases s with
        | nil => cases h1'
        | cons c t =>
          injection h1' with h1'; subst h1'
          rfl
      unfold nmV nmB
      rw [if_pos h1', if_pos h1']
      cases h2 : decB (s.drop 1) with
      | false =>
        have e0 := decN_f (decB_f h2)
        rw [e0]
        cases b <;> simp only [c_gnum, r_gnum, cutPreS, fdecS, hph, ht, h2, Bool.true_or, Bool.false_or, Bool.false_and, Bool.not_false, Bool.false_eq_true, if_false, go_sem, Nat.reduceDiv, Nat.reduceMod, ↓reduceIte, Nat.reduceEqDiff, Nat.reduceBEq, Nat.reduceSub, Nat.reduceLT, Nat.reduceAdd, Nat.reduceLeDiff, reduceCtorEq, Int.reduceEq, Int.reduceNe, Int.reduceLT, Int.reduceLE, Int.reduceToNat]
        all_goals first | omega | exact ⟨by omega, by omega, by omega⟩
      | true =>
        cases h3 : decide (decN (s.drop 1) = 0) with
        | true =>
          have h4 : decide (((decN (s.drop 1) : Nat) : Int) = 0) = true := decide_eq_true (by have := of_decide_eq_true h3; omega)
          cases b <;> simp only [c_gnum, r_gnum, cutPreS, fdecS, hph, ht, h2, h4, Bool.true_or, Bool.false_or, Bool.true_and, Bool.not_true, Bool.not_false, if_true, go_sem, Nat.reduceDiv, Nat.reduceMod, ↓reduceIte, Nat.reduceEqDiff, Nat.reduceBEq, Nat.reduceSub, Nat.reduceLT, Nat.reduceAdd, Nat.reduceLeDiff, reduceCtorEq, Int.reduceEq, Int.reduceNe, Int.reduceLT, Int.reduceLE, Int.reduceToNat]
          all_goals first | omega | exact ⟨by omega, by omega, by omega⟩
        | false =>
          have h4 : decide (((decN (s.drop 1) : Nat) : Int) = 0) = false := decide_eq_false (by have := of_decide_eq_false h3; omega)
          cases b <;> simp only [c_gnum, r_gnum, cutPreS, fdecS, hph, ht, h2, h4, Bool.true_or, Bool.false_or, Bool.true_and, Bool.not_true, Bool.not_false, if_true, go_sem, Nat.reduceDiv, Nat.reduceMod, ↓reduceIte, Nat.reduceEqDiff, Nat.reduceBEq, Nat.reduceSub, Nat.reduceLT, Nat.reduceAdd, Nat.reduceLeDiff, reduceCtorEq, Int.reduceEq, Int.reduceNe, Int.reduceLT, Int.reduceLE, Int.reduceToNat]
          all_goals first | omega | exact ⟨by omega, by omega, by omega⟩
    | false =>
      have h1' := of_decide_eq_false h1
      rw [h1] at hph
      have ht : trimPrefix s [45] = s := by unfold trimPrefix; rw [if_neg (by rw [hph]; simp)]
      unfold nmV nmB
      rw [if_neg h1', if_neg h1']
      cases h2 : decB s with
      | false =>
        have e0 := decN_f (decB_f h2)
        rw [e0]
        cases b <;> simp only [c_gnum, r_gnum, cutPreS, fdecS, hph, ht, h2, Bool.true_or, Bool.false_or, Bool.not_false, Bool.false_eq_true, if_false, go_sem, Nat.reduceDiv, Nat.reduceMod, ↓reduceIte, Nat.reduceEqDiff, Nat.reduceBEq, Nat.reduceSub, Nat.reduceLT, Nat.reduceAdd, Nat.reduceLeDiff, reduceCtorEq, Int.reduceEq, Int.reduceNe, Int.reduceLT, Int.reduceLE, Int.reduceToNat]
        all_goals first | omega | exact ⟨by omega, by omega, by omega⟩
      | true =>
        cases b <;> simp only [c_gnum, r_gnum, cutPreS, fdecS, hph, ht, h2, Bool.true_or, Bool.false_or, Bool.not_true, Bool.not_false, if_true, go_sem, Nat.reduceDiv, Nat.reduceMod, ↓reduceIte, Nat.reduceEqDiff, Nat.reduceBEq, Nat.reduceSub, Nat.reduceLT, Nat.reduceAdd, Nat.reduceLeDiff, reduceCtorEq, Int.reduceEq, Int.reduceNe, Int.reduceLT, Int.reduceLE, Int.reduceToNat]
        all_goals first | omega | exact ⟨by omega, by omega, by omega⟩
  · cases hs
end Go.Proofs.YtfabdnpeohpgnaaDoor
