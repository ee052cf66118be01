import Derived.Test.YtfabdnpeohpgnaaGreatDoorQFNRight
import Derived.Lib.IndexLaws
import Derived.Lib.SplitLaws
import Derived.Lib.IndexAny
import Derived.Lib.IndexMore
import Derived.Test.YtfabdnpeohpgnaaGreatDoorQShelf
import Derived.Lib.IndexBytes
import Derived.Lib.CountLaws
import Derived.Lib.Replace
import Derived.Test.YtfabdnpeohpgnaaGreatDoorQFGrow
namespace Go.Proofs.YtfabdnpeohpgnaaGreatDoor
set_option linter.all false
open Go.RowKit
end Go.Proofs.YtfabdnpeohpgnaaGreatDoor
namespace Go.Proofs.YtfabdnpeohpgnaaGreatDoor
set_option linter.all false
theorem dv_digF : ∀ k : Fin 16, Lib.indexByte digs (digs.getD k.1 0) = (k.1 : Int) := by decide
theorem dv_dig (k : Nat) (h : k < 16) : dv (digs.getD k 0) = (k : Int) := by unfold dv; exact dv_digF ⟨k, h⟩
theorem hexL_at : ∀ (l : List UInt8) (j : Nat), j < l.length → (hexL l).getD (2 * j) 0 = digs.getD ((l.getD j 0).toNat / 16) 0 ∧ (hexL l).getD (2 * j + 1) 0 = digs.getD ((l.getD j 0).toNat % 16) 0
  | [], j, h => absurd h (by simp)
  | b :: l, 0, _ => ⟨rfl, rfl⟩
  | b :: l, j + 1, h => by
    have ih := hexL_at l j (by simpa using h)
    rw [show 2 * (j + 1) = 2 * j + 1 + 1 by omega, hexL, List.getD_cons_succ, List.getD_cons_succ, List.getD_cons_succ, List.getD_cons_succ, List.getD_cons_succ]
    exact ih
theorem hexL_ok : ∀ (l : List UInt8), ∀ c ∈ hexL l, 0 ≤ dv c
  | [], c, h => by cases h
  | b :: l, c, h => by
    have := b.toNat_lt
    rw [hexL, List.mem_cons, List.mem_cons] at h
    rcases h with rfl | rfl | h
    · rw [dv_dig _ (by omega)]; omega
    · rw [dv_dig _ (by omega)]; omega
    · exact hexL_ok l c h
theorem parse_hexN (id : List UInt8) (j : Nat) (hj : j < 20) (h : id.length = 20) : outN (hexL id) 40 j = (id.getD j 0).toNat := by
  obtain ⟨h1, h2⟩ := hexL_at id j (by omega)
  have := (id.getD j 0).toNat_lt
  unfold outN
  rw [if_pos (by omega), h1, h2, dv_dig _ (by omega), dv_dig _ (by omega), Int.toNat_natCast, Int.toNat_natCast]
  omega
theorem parse_hex (id : List UInt8) (h : id.length = 20) : outL (hexL id) 40 = id := by
  apply List.ext_getElem?
  intro j
  unfold outL
  by_cases hj : j < 20
  · rw [List.getElem?_map, List.getElem?_range hj, Option.map_some, parse_hexN id j hj h, UInt8.ofNat_toNat, List.getD_eq_getElem?_getD, List.getElem?_eq_getElem (by omega)]
    rfl
  · rw [List.getElem?_eq_none (by simp; omega), List.getElem?_eq_none (by omega)]
theorem outL_length (s : List UInt8) (i : Nat) : (outL s i).length = 20 := by unfold outL; simp
end Go.Proofs.YtfabdnpeohpgnaaGreatDoor
namespace Go.Proofs.YtfabdnpeohpgnaaGreatDoor
set_option linter.all false
open Go.RowKit
def okP (l : List UInt8) (i : Nat) : Prop := 0 ≤ dv (l.getD (2 * i) 0) ∧ 0 ≤ dv (l.getD (2 * i + 1) 0)
instance (l : List UInt8) (i : Nat) : Decidable (okP l i) := inferInstanceAs (Decidable (_ ∧ _))
end Go.Proofs.YtfabdnpeohpgnaaGreatDoor
namespace Go.Proofs.YtfabdnpeohpgnaaGreatDoor
set_option linter.all false
open Go.RowKit
end Go.Proofs.YtfabdnpeohpgnaaGreatDoor
namespace Go.Proofs.YtfabdnpeohpgnaaGreatDoor
set_option linter.all false
open Go.RowKit
theorem goodQ_iff (l : List UInt8) : goodQ l = true ↔ l.length = 40 ∧ ∀ c ∈ l, 0 ≤ dv c := by unfold goodQ; simp
theorem pOut_len (l : List UInt8) : (pOut l).length = 20 := by
  unfold pOut
  split
  · exact outL_length _ _
  · simp
theorem hex_good (l : List UInt8) (h : l.length = 20) : goodQ (hexL l) = true := (goodQ_iff _).2 ⟨by rw [hexL_length, h], hexL_ok l⟩
theorem pOut_hex (l : List UInt8) (h : l.length = 20) : pOut (hexL l) = l := by unfold pOut; rw [if_pos (hex_good l h), parse_hex l h]
end Go.Proofs.YtfabdnpeohpgnaaGreatDoor
namespace Go.Proofs.YtfabdnpeohpgnaaGreatDoor
set_option linter.all false
open Go.Lib (index indexByte splitK count countB splitB cut indexAny)
def psl (c : UInt8) : List UInt8 → List (List UInt8)
  | [] => [[]]
  | b :: r => if b = c then [] :: psl c r else match psl c r with
    | h :: t => (b :: h) :: t
    | [] => [[b]]
theorem psl_ne (c : UInt8) : ∀ l, psl c l ≠ []
  | [] => by simp [psl]
  | b :: r => by
    unfold psl
    split
    · simp
    · split <;> simp
theorem psl_cons_ne {c b : UInt8} (h : b ≠ c) (r : List UInt8) : ∃ x t, psl c r = x :: t ∧ psl c (b :: r) = (b :: x) :: t := by
  cases hp : psl c r with
  | nil => exact absurd hp (psl_ne c r)
  | cons x t => exact ⟨x, t, rfl, by rw [psl, if_neg h, hp]⟩
theorem psl_cons_eq (c : UInt8) (r : List UInt8) : psl c (c :: r) = [] :: psl c r := by rw [psl, if_pos rfl]
theorem splitK_psl (c : UInt8) : ∀ l : List UInt8, splitK [c] 0 (count l [c]) l = psl c l
  | [] => by
    rw [Go.Lib.count_miss (by simp [index])]; rfl
  | b :: l => by
    have ih := splitK_psl c l
    by_cases h : b = c
    · subst h
      have hix : index (b :: l) [b] = 0 := by rw [index]; simp [List.isPrefixOf]
      rw [Go.Lib.count_cons_eq, Nat.add_comm, splitK, hix, if_neg (by decide), psl_cons_eq, ← ih]
      simp
    · obtain ⟨x, t, e1, e2⟩ := psl_cons_ne h l
      have hp : ([c] : List UInt8).isPrefixOf (b :: l) = false := by simp [List.isPrefixOf, Ne.symm h]
      have hix : index (b :: l) [c] = if index l [c] == -1 then -1 else index l [c] + 1 := by rw [index, hp]; simp
      rw [Go.Lib.count_cons_ne b c l h, e2]
      rw [e1] at ih
      by_cases hm : index l [c] = -1
      · rw [Go.Lib.count_miss hm] at ih ⊢
        simp only [splitK, List.cons.injEq] at ih ⊢
        exact ⟨⟨trivial, ih.1⟩, ih.2⟩
      · have hge := Go.Lib.index_ge l [c]
        obtain ⟨j, hj⟩ : ∃ j : Nat, index l [c] = j := ⟨(index l [c]).toNat, by omega⟩
        rw [Go.Lib.count_hit (by simp) hj, Nat.add_comm] at ih ⊢
        have hix' : index (b :: l) [c] = ((j + 1 : Nat) : Int) := by rw [hix, if_neg (fun e => hm (beq_iff_eq.1 e)), hj]; omega
        rw [splitK, hj, if_neg (fun e => hm (by rw [hj]; exact beq_iff_eq.1 e))] at ih
        rw [splitK, hix', if_neg (fun e => by have := beq_iff_eq.1 e; omega)]
        simp only [List.length_cons, List.length_nil, Nat.zero_add, Nat.add_zero, Int.toNat_natCast, List.cons.injEq, List.take_succ_cons, List.drop_succ_cons] at ih ⊢
        exact ⟨⟨trivial, ih.1⟩, ih.2⟩
theorem psl_join_len (c : UInt8) : ∀ l : List UInt8, (psl c l).length ≤ l.length + 1
  | [] => by simp [psl]
  | b :: l => by
    have ih := psl_join_len c l
    by_cases h : b = c
    · subst h; rw [psl_cons_eq]; simp; omega
    · obtain ⟨x, t, e1, e2⟩ := psl_cons_ne h l
      rw [e2]; rw [e1] at ih; simp at ih ⊢; omega
def pre1 (acc : List UInt8) : List (List UInt8) → List (List UInt8)
  | [] => [acc]
  | h :: t => (acc ++ h) :: t
theorem pre1_nil (l : List (List UInt8)) (h : l ≠ []) : pre1 [] l = l := by cases l <;> simp_all [pre1]
theorem pre1_psl_eq (c : UInt8) (acc r : List UInt8) : pre1 acc (psl c (c :: r)) = acc :: pre1 [] (psl c r) := by
  rw [psl_cons_eq, pre1_nil _ (psl_ne c r)]; simp [pre1]
theorem pre1_psl_ne {c b : UInt8} (h : b ≠ c) (acc r : List UInt8) : pre1 acc (psl c (b :: r)) = pre1 (acc ++ [b]) (psl c r) := by
  obtain ⟨x, t, e1, e2⟩ := psl_cons_ne h r
  rw [e1, e2]; simp [pre1]
def badP (q : List UInt8) : Bool := decide (q = []) || decide (q = [46]) || decide (q = [46, 46])
def ctlB (c : UInt8) : Bool := decide (c = 0) || decide (c = 10) || decide (c = 13)
def rightP (p : List UInt8) : Bool := !decide (255 < p.length) && !p.any ctlB && !(psl 47 p).any badP
theorem indexAny_nn (chars : List UInt8) : ∀ s : List UInt8, (decide (0 ≤ indexAny s chars)) = s.any fun b => chars.contains b
  | [] => rfl
  | b :: l => by
    have ih := indexAny_nn chars l
    have hg := Go.Lib.indexAny_ge chars l
    have hd : indexAny (b :: l) chars = if chars.contains b then 0 else if indexAny l chars == -1 then -1 else indexAny l chars + 1 := by rw [indexAny]
    rw [List.any_cons, ← ih, hd]
    cases hb : chars.contains b with
    | true => simp
    | false =>
      simp only [Bool.false_or, Bool.false_eq_true, if_false]
      by_cases h : indexAny l chars = -1
      · rw [if_pos (beq_iff_eq.2 h), h]
      · rw [if_neg (by simpa using h)]
        rw [Bool.eq_iff_iff]; simp; omega
theorem rightP_facts {p : List UInt8} (h : rightP p = true) : p.length ≤ 255 ∧ (∀ c ∈ p, c ≠ 0 ∧ c ≠ 10 ∧ c ≠ 13) ∧ p ≠ [] := by
  unfold rightP at h
  simp only [Bool.and_eq_true, Bool.not_eq_true', decide_eq_false_iff_not, Nat.not_lt, List.any_eq_false] at h
  refine ⟨h.1.1, fun c hc => ?_, ?_⟩
  · have := h.1.2 c hc
    simp [ctlB] at this
    exact ⟨this.1.1, this.1.2, this.2⟩
  · rintro rfl
    exact absurd (h.2 [] (by simp [psl])) (by decide)
end Go.Proofs.YtfabdnpeohpgnaaGreatDoor
namespace Go.Proofs.YtfabdnpeohpgnaaGreatDoor
set_option linter.all false
open Go.RowKit
open Go.Lib (index hasPrefix trimPrefix cut occAt indexAny replaceK replaceNum replaceAll)
theorem occAt_1 {s : List UInt8} {c : UInt8} {j : Nat} (h : occAt s [c] j = true) : s[j]? = some c := by
  unfold occAt at h
  cases hd : s.drop j with
  | nil => rw [hd] at h; cases h
  | cons x r =>
    rw [hd] at h
    have e : c = x := by simpa [List.isPrefixOf] using h
    have := congrArg (fun l => l[0]?) hd
    simpa [e] using this
theorem occAt_append (a p b : List UInt8) : occAt (a ++ (p ++ b)) p a.length = true := by
  unfold occAt
  rw [List.drop_left]
  simp [List.isPrefixOf_iff_prefix]
theorem index_app {a p b : List UInt8} (h : ∀ j, j < a.length → occAt (a ++ (p ++ b)) p j = false) : index (a ++ (p ++ b)) p = a.length :=
  Lib.index_first (by simp) (occAt_append a p b) h
theorem cut_app {a p b : List UInt8} (h : ∀ j, j < a.length → occAt (a ++ (p ++ b)) p j = false) : cut (a ++ (p ++ b)) p = (a, b, true) := by
  have e := index_app h
  have e2 : (index (a ++ (p ++ b)) p).toNat = a.length := by omega
  unfold cut
  rw [if_pos (by omega), e2, List.take_left, ← List.drop_drop, List.drop_left, List.drop_left]
theorem cut_1 {a b : List UInt8} {c : UInt8} (h : c ∉ a) : cut (a ++ c :: b) [c] = (a, b, true) := by
  refine cut_app (p := [c]) fun j hj => ?_
  rw [Bool.eq_false_iff]
  intro ho
  have := occAt_1 ho
  rw [List.getElem?_append_left hj] at this
  exact h (List.mem_of_getElem? this)
theorem cut_1n {s : List UInt8} {c : UInt8} (h : c ∉ s) : cut s [c] = (s, [], false) := by
  have e : index s [c] = -1 := by
    rcases Lib.index_spec s [c] with h1 | ⟨i, _, _, h3, _⟩
    · exact h1.1
    · exact absurd (List.mem_of_getElem? (occAt_1 h3)) h
  unfold cut
  rw [if_neg (by omega)]
theorem cut_t {s p : List UInt8} (h : (cut s p).2.2 = true) : s = (cut s p).1 ++ (p ++ (cut s p).2.1) := by
  unfold cut at h ⊢
  split at h
  · rename_i hi
    rw [if_pos hi]
    simp only
    rcases Lib.index_spec s p with h1 | ⟨i, h1, h2, h3, _⟩
    · omega
    · have e : (index s p).toNat = i := by omega
      rw [e]
      unfold occAt at h3
      rw [List.isPrefixOf_iff_prefix] at h3
      obtain ⟨r, hr⟩ := h3
      rw [← List.drop_drop, ← hr, List.drop_left, hr, List.take_append_drop]
  · cases h
theorem cut_f {s p : List UInt8} (h : (cut s p).2.2 = false) : (cut s p).1 = s ∧ (cut s p).2.1 = [] := by
  unfold cut at h ⊢
  split at h
  · cases h
  · rename_i hi
    rw [if_neg hi]
    exact ⟨rfl, rfl⟩
theorem cut_1mem {s : List UInt8} {c : UInt8} : c ∉ (cut s [c]).1 := by
  unfold cut
  split
  · rename_i hi
    simp only
    rcases Lib.index_spec s [c] with h1 | ⟨i, h1, h2, h3, h4⟩
    · omega
    · have e : (index s [c]).toNat = i := by omega
      rw [e]
      intro hm
      obtain ⟨j, hj, hg⟩ := List.getElem_of_mem hm
      rw [List.length_take] at hj
      have := h4 j (by omega)
      rw [Bool.eq_false_iff] at this
      apply this
      rw [List.getElem_take] at hg
      unfold occAt
      rw [List.drop_eq_getElem_cons (by omega), hg]
      simp [List.isPrefixOf]
  · rename_i hi
    simp only
    intro hm
    obtain ⟨j, hj, hg⟩ := List.getElem_of_mem hm
    rcases Lib.index_spec s [c] with h1 | ⟨i, h1, h2, h3, h4⟩
    · have := h1.2 j (by omega)
      rw [Bool.eq_false_iff] at this
      apply this
      unfold occAt
      rw [List.drop_eq_getElem_cons hj, hg]
      simp [List.isPrefixOf]
    · omega
theorem cut_1f {s : List UInt8} {c : UInt8} (h : (cut s [c]).2.2 = false) : c ∉ s := by
  have h1 := cut_1mem (s := s) (c := c)
  rwa [(cut_f h).1] at h1
theorem cut_1t {s : List UInt8} {c : UInt8} (h : c ∈ s) : (cut s [c]).2.2 = true := by
  cases hc : (cut s [c]).2.2 with
  | true => rfl
  | false => exact absurd h (cut_1f hc)
theorem mem_split {c : UInt8} : ∀ {s : List UInt8}, c ∈ s → ∃ a b, s = a ++ c :: b ∧ c ∉ a := by
  intro s h
  exact ⟨_, _, cut_t (cut_1t h), cut_1mem⟩
end Go.Proofs.YtfabdnpeohpgnaaGreatDoor
namespace Go.Proofs.YtfabdnpeohpgnaaGreatDoor
set_option linter.all false
open Go.RowKit
open Go.Lib (index hasPrefix cut indexAny itoa decDigits)
structure ChgL where
  man : List UInt8
  user : List UInt8
  time : Int
  zone : Int
  extras : List ExL
  files : List (List UInt8)
  desc : List UInt8
def keyC (c : UInt8) : Bool := (decide (97 ≤ c.toNat) && decide (c.toNat ≤ 122)) || (decide (65 ≤ c.toNat) && decide (c.toNat ≤ 90)) || (decide (48 ≤ c.toNat) && decide (c.toNat ≤ 57)) || decide (c.toNat = 45) || decide (c.toNat = 95)
def keyedB (s : List UInt8) : Bool := decide (s ≠ []) && decide (s.length ≤ 100) && s.all keyC
def ascB : List (List UInt8) → Bool
  | [] => true
  | [_] => true
  | a :: b :: r => Op.bytesLess a b && ascB (b :: r)
def rightH (c : ChgL) : Bool := decide (c.user ≠ []) && !c.user.contains 10 && decide (0 ≤ c.time) && decide (c.time < 4611686018427387904) && decide (-86399 ≤ c.zone) && decide (c.zone ≤ 86399) &&
  (c.extras.all fun x => keyedB x.1) && ascB (c.extras.map Prod.fst) && c.files.all rightP && ascB c.files
def escC (c : UInt8) : List UInt8 := if c = 92 then [92, 92] else if c = 10 then [92, 110] else if c = 13 then [92, 114] else if c = 0 then [92, 48] else [c]
def tolL (v : List UInt8) : List UInt8 := v.flatMap escC
def meC (d : UInt8) : UInt8 := if d = 110 then 10 else if d = 114 then 13 else if d = 48 then 0 else d
def meaL : List UInt8 → List UInt8
  | [] => []
  | [c] => [c]
  | c :: d :: r => if c = 92 then meC d :: meaL r else c :: meaL (d :: r)
theorem mea_pair (d : UInt8) (r : List UInt8) : meaL (92 :: d :: r) = meC d :: meaL r := by rw [meaL, if_pos rfl]
theorem mea_other {c : UInt8} (h : c ≠ 92) (r : List UInt8) : meaL (c :: r) = c :: meaL r := by
  cases r with
  | nil => rfl
  | cons d r => rw [meaL, if_neg h]
theorem mea_tol : ∀ v : List UInt8, meaL (tolL v) = v
  | [] => rfl
  | c :: v => by
    have ih := mea_tol v
    unfold tolL at ih ⊢
    rw [List.flatMap_cons]
    by_cases h1 : c = 92
    · subst h1; rw [show escC 92 = [92, 92] from rfl, List.cons_append, List.cons_append, List.nil_append, mea_pair, ih]; rfl
    by_cases h2 : c = 10
    · subst h2; rw [show escC 10 = [92, 110] from rfl, List.cons_append, List.cons_append, List.nil_append, mea_pair, ih]; rfl
    by_cases h3 : c = 13
    · subst h3; rw [show escC 13 = [92, 114] from rfl, List.cons_append, List.cons_append, List.nil_append, mea_pair, ih]; rfl
    by_cases h4 : c = 0
    · subst h4; rw [show escC 0 = [92, 48] from rfl, List.cons_append, List.cons_append, List.nil_append, mea_pair, ih]; rfl
    rw [show escC c = [c] by unfold escC; rw [if_neg h1, if_neg h2, if_neg h3, if_neg h4], List.cons_append, List.nil_append, mea_other h1, ih]
theorem tol_no (v : List UInt8) : (10 : UInt8) ∉ tolL v ∧ (0 : UInt8) ∉ tolL v := by
  have key : ∀ c x : UInt8, x ∈ escC c → x ≠ 10 ∧ x ≠ 0 := by
    intro c x hx
    unfold escC at hx
    repeat' split at hx
    all_goals (simp only [List.mem_cons, List.not_mem_nil, or_false] at hx)
    all_goals first | (rcases hx with rfl | rfl <;> decide) | skip
    rename_i h1 h2 h3 h4
    subst hx; exact ⟨h2, h4⟩
  constructor
  · intro h; obtain ⟨c, _, hc⟩ := List.mem_flatMap.1 h; exact (key c _ hc).1 rfl
  · intro h; obtain ⟨c, _, hc⟩ := List.mem_flatMap.1 h; exact (key c _ hc).2 rfl
def joinB (c : UInt8) : List (List UInt8) → List UInt8
  | [] => []
  | x :: xs => x ++ xs.flatMap (c :: ·)
theorem psl_none {c : UInt8} : ∀ {l : List UInt8}, c ∉ l → psl c l = [l]
  | [], _ => rfl
  | b :: l, h => by
    have h1 : b ≠ c := fun e => h (by rw [e]; exact List.mem_cons_self ..)
    rw [psl, if_neg h1, psl_none (fun e => h (List.mem_cons_of_mem _ e))]
theorem psl_app {c : UInt8} : ∀ {a : List UInt8} (b : List UInt8), c ∉ a → psl c (a ++ c :: b) = a :: psl c b
  | [], b, _ => by rw [List.nil_append, psl_cons_eq]
  | x :: a, b, h => by
    have h1 : x ≠ c := fun e => h (by rw [e]; exact List.mem_cons_self ..)
    rw [List.cons_append, psl, if_neg h1, psl_app b (fun e => h (List.mem_cons_of_mem _ e))]
theorem psl_join {c : UInt8} : ∀ {xs : List (List UInt8)}, xs ≠ [] → (∀ x ∈ xs, c ∉ x) → psl c (joinB c xs) = xs
  | [], h, _ => absurd rfl h
  | [x], _, h => by rw [joinB, List.flatMap_nil, List.append_nil, psl_none (h x (List.mem_cons_self ..))]
  | x :: y :: r, _, h => by
    have ih := psl_join (c := c) (xs := y :: r) (by simp) (fun z hz => h z (List.mem_cons_of_mem _ hz))
    rw [joinB, List.flatMap_cons, List.cons_append, psl_app _ (h x (List.mem_cons_self ..))]
    rw [joinB] at ih; rw [ih]
def exT (x : ExL) : List UInt8 := x.1 ++ 58 :: tolL x.2
def exsT : List ExL → List UInt8
  | [] => []
  | x :: xs => 32 :: joinB 0 ((x :: xs).map exT)
def fileT (f : List UInt8) : List UInt8 := f ++ [10]
def dateT (c : ChgL) : List UInt8 := itoa c.time ++ 32 :: (itoa c.zone ++ exsT c.extras)
def bodyH (c : ChgL) : List UInt8 := hexL c.man ++ 10 :: (c.user ++ 10 :: (dateT c ++ 10 :: (c.files.flatMap fileT ++ 10 :: c.desc)))
def exP (o : List UInt8) : ExL := ((cut o [58]).1, meaL (cut o [58]).2.1)
def exOk (o : List UInt8) : Bool := (cut o [58]).2.2 && decide (tolL (meaL (cut o [58]).2.1) = (cut o [58]).2.1)
def filesG : Nat → List UInt8 → Bool → List (List UInt8) → List UInt8 × Bool × List (List UInt8)
  | 0, s, b, acc => (s, b, acc)
  | f + 1, s, b, acc => if b = true then (s, b, acc) else
      if (cut s [10]).1 = [] then ((cut s [10]).2.1, !(cut s [10]).2.2, acc) else filesG f (cut s [10]).2.1 (!(cut s [10]).2.2) (acc ++ [(cut s [10]).1])
def q1 (s : List UInt8) := cut s [10]
def q2 (s : List UInt8) := cut (q1 s).2.1 [10]
def q3 (s : List UInt8) := cut (q2 s).2.1 [10]
def tP (s : List UInt8) := cut (q3 s).1 [32]
def zP (s : List UInt8) := cut (tP s).2.1 [32]
def exsP (s : List UInt8) : List ExL := if (zP s).2.2 = true then (psl 0 (zP s).2.1).map exP else []
noncomputable def bad0 (s : List UInt8) : Bool := !(q1 s).2.2 || !(q2 s).2.2 || !(q3 s).2.2 || !nmB (tP s).1 || !nmB (zP s).1
noncomputable def badH (s : List UInt8) : Bool := bad0 s || ((zP s).2.2 && (psl 0 (zP s).2.1).any fun o => !exOk o)
noncomputable def fG (s : List UInt8) := filesG ((q3 s).2.1.length + 1) (q3 s).2.1 (badH s) []
noncomputable def chgC (s : List UInt8) : ChgL := ⟨pOut (q1 s).1, (q2 s).1, nmV (tP s).1, nmV (zP s).1, exsP s, (fG s).2.2, (fG s).1⟩
noncomputable def chgB (s : List UInt8) : Bool := goodQ (q1 s).1 && !(fG s).2.1 && rightH (chgC s)
theorem cut1_t {s : List UInt8} {c : UInt8} (h : (cut s [c]).2.2 = true) : s = (cut s [c]).1 ++ c :: (cut s [c]).2.1 := cut_t h
theorem filesG_true (f : Nat) (s : List UInt8) (acc : List (List UInt8)) : filesG f s true acc = (s, true, acc) := by
  cases f with
  | zero => rfl
  | succ f => rw [filesG, if_pos rfl]
theorem filesG_app : ∀ (fs : List (List UInt8)) (f : Nat) (d : List UInt8) (acc : List (List UInt8)), fs.length < f → (∀ x ∈ fs, x ≠ [] ∧ (10 : UInt8) ∉ x) →
    filesG f (fs.flatMap fileT ++ 10 :: d) false acc = (d, false, acc ++ fs) := by
  intro fs
  induction fs with
  | nil =>
    intro f d acc hf _
    obtain ⟨f, rfl⟩ : ∃ k, f = k + 1 := ⟨f - 1, by simp only [List.length_nil] at hf; omega⟩
    have e : cut (10 :: d) [10] = ([], d, true) := cut_1 (a := []) (by simp)
    rw [List.flatMap_nil, List.nil_append, filesG, if_neg (by simp), e, if_pos rfl, List.append_nil]; rfl
  | cons x fs ih =>
    intro f d acc hf hx
    obtain ⟨f, rfl⟩ : ∃ k, f = k + 1 := ⟨f - 1, by simp only [List.length_cons] at hf; omega⟩
    simp only [List.length_cons] at hf
    obtain ⟨x1, x2⟩ := hx x (List.mem_cons_self ..)
    have e : cut ((x :: fs).flatMap fileT ++ 10 :: d) [10] = (x, fs.flatMap fileT ++ 10 :: d, true) := by
      rw [List.flatMap_cons, fileT, List.append_assoc, List.append_assoc]
      exact cut_1 x2
    rw [filesG, if_neg (by simp), e, if_neg x1]
    simp only [Bool.not_true]
    rw [ih f d _ (by omega) (fun y hy => hx y (List.mem_cons_of_mem _ hy))]
    simp
theorem keyC_no {k : List UInt8} (h : keyedB k = true) {c : UInt8} (hc : keyC c = false) : c ∉ k := by
  unfold keyedB at h
  simp only [Bool.and_eq_true, List.all_eq_true] at h
  intro hm
  have := h.2 c hm
  rw [hc] at this; cases this
theorem exP_T {x : ExL} (h : keyedB x.1 = true) : exP (exT x) = x ∧ exOk (exT x) = true := by
  have e : cut (exT x) [58] = (x.1, tolL x.2, true) := cut_1 (keyC_no h (by decide))
  unfold exP exOk
  rw [e]
  simp only
  rw [mea_tol]
  exact ⟨rfl, by simp⟩
theorem exT_no {x : ExL} (h : keyedB x.1 = true) : (10 : UInt8) ∉ exT x ∧ (0 : UInt8) ∉ exT x ∧ exT x ≠ [] := by
  obtain ⟨h1, h2⟩ := tol_no x.2
  have h3 := keyC_no h (c := 10) (by decide)
  have h4 := keyC_no h (c := 0) (by decide)
  unfold exT
  simp only [List.mem_append, List.mem_cons, not_or]
  exact ⟨⟨h3, by decide, h1⟩, ⟨h4, by decide, h2⟩, by simp⟩
theorem joinB_no {c : UInt8} (hc : c ≠ 0) : ∀ {xs : List (List UInt8)}, (∀ x ∈ xs, c ∉ x) → c ∉ joinB 0 xs
  | [], _ => by simp [joinB]
  | x :: xs, h => by
    rw [joinB, List.mem_append, not_or]
    refine ⟨h x (List.mem_cons_self ..), fun hm => ?_⟩
    obtain ⟨y, hy, hm⟩ := List.mem_flatMap.1 hm
    rcases List.mem_cons.1 hm with rfl | hm
    · exact hc rfl
    · exact h y (List.mem_cons_of_mem _ hy) hm
structure RightH (c : ChgL) : Prop where
  user : c.user ≠ [] ∧ (10 : UInt8) ∉ c.user
  time : 0 ≤ c.time ∧ c.time < 4611686018427387904
  zone : -86399 ≤ c.zone ∧ c.zone ≤ 86399
  keys : ∀ x ∈ c.extras, keyedB x.1 = true
  paths : ∀ f ∈ c.files, rightP f = true
theorem rightH_of {c : ChgL} (h : rightH c = true) : RightH c := by
  unfold rightH at h
  simp only [Bool.and_eq_true, decide_eq_true_eq, List.all_eq_true, Bool.not_eq_true'] at h
  obtain ⟨⟨⟨⟨⟨⟨⟨⟨⟨h1, h2⟩, h3⟩, h4⟩, h5⟩, h6⟩, h7⟩, h8⟩, h9⟩, h10⟩ := h
  exact ⟨⟨h1, fun hm => by rw [List.contains_iff_mem.2 hm] at h2; cases h2⟩, ⟨h3, h4⟩, ⟨h5, h6⟩, h7, h9⟩
theorem exsT_no {es : List ExL} (h : ∀ x ∈ es, keyedB x.1 = true) : (10 : UInt8) ∉ exsT es := by
  cases es with
  | nil => simp [exsT]
  | cons x xs =>
    rw [exsT, List.mem_cons, not_or]
    refine ⟨by decide, joinB_no (by decide) fun y hy => ?_⟩
    obtain ⟨z, hz, rfl⟩ := List.mem_map.1 hy
    exact (exT_no (h z hz)).1
theorem dateT_no {c : ChgL} (h : RightH c) : (10 : UInt8) ∉ dateT c := by
  unfold dateT
  simp only [List.mem_append, List.mem_cons, not_or]
  exact ⟨itoa_no _ _ (by decide) (by decide), by decide, itoa_no _ _ (by decide) (by decide), exsT_no h.keys⟩
theorem file_no {f : List UInt8} (h : rightP f = true) : f ≠ [] ∧ (10 : UInt8) ∉ f := by
  obtain ⟨_, h2, h3⟩ := rightP_facts h
  exact ⟨h3, fun hm => (h2 10 hm).2.1 rfl⟩
theorem hexL_n10 (l : List UInt8) : (10 : UInt8) ∉ hexL l := fun h => absurd (hexL_ok l 10 h) (by unfold dv; decide)
theorem flat_ge (fs : List (List UInt8)) : fs.length ≤ (fs.flatMap fileT).length := by
  induction fs with
  | nil => simp
  | cons x fs ih => rw [List.flatMap_cons, List.length_append, List.length_cons]; simp only [fileT, List.length_append, List.length_cons, List.length_nil] at ih ⊢; omega
theorem cut_date {c : ChgL} (h : RightH c) : cut (dateT c) [32] = (itoa c.time, itoa c.zone ++ exsT c.extras, true) ∧
    (c.extras = [] → cut (itoa c.zone ++ exsT c.extras) [32] = (itoa c.zone, [], false)) ∧ (c.extras ≠ [] → cut (itoa c.zone ++ exsT c.extras) [32] = (itoa c.zone, joinB 0 (c.extras.map exT), true)) := by
  have n1 := itoa_no c.time 32 (by decide) (by decide)
  have n2 := itoa_no c.zone 32 (by decide) (by decide)
  refine ⟨cut_1 n1, fun e => ?_, fun e => ?_⟩
  · rw [e, exsT, List.append_nil, cut_1n n2]
  · cases he : c.extras with
    | nil => exact absurd he e
    | cons x xs => exact cut_1 n2
theorem chg_body {c : ChgL} (h : rightH c = true) (h20 : c.man.length = 20) : chgB (bodyH c) = true ∧ chgC (bodyH c) = c := by
  have hr := rightH_of h
  generalize hs : bodyH c = s
  unfold bodyH at hs
  have e1 : q1 s = (hexL c.man, c.user ++ 10 :: (dateT c ++ 10 :: (c.files.flatMap fileT ++ 10 :: c.desc)), true) := by unfold q1; rw [← hs]; exact cut_1 (hexL_n10 _)
  have e2 : q2 s = (c.user, dateT c ++ 10 :: (c.files.flatMap fileT ++ 10 :: c.desc), true) := by unfold q2; rw [e1]; exact cut_1 hr.user.2
  have e3 : q3 s = (dateT c, c.files.flatMap fileT ++ 10 :: c.desc, true) := by unfold q3; rw [e2]; exact cut_1 (dateT_no hr)
  obtain ⟨d1, d2, d3⟩ := cut_date hr
  have e4 : tP s = (itoa c.time, itoa c.zone ++ exsT c.extras, true) := by unfold tP; rw [e3]; exact d1
  obtain ⟨m1, m2⟩ := nm_itoa (z := c.time) (by have := hr.time; omega) hr.time.2
  obtain ⟨m3, m4⟩ := nm_itoa (z := c.zone) (by have := hr.zone; omega) (by have := hr.zone; omega)
  have eb : (zP s).1 = itoa c.zone ∧ exsP s = c.extras ∧ ((zP s).2.2 && (psl 0 (zP s).2.1).any fun o => !exOk o) = false := by
    by_cases he : c.extras = []
    · have e5 : zP s = (itoa c.zone, [], false) := by unfold zP; rw [e4]; exact d2 he
      unfold exsP
      rw [e5, he]
      exact ⟨rfl, rfl, rfl⟩
    · have e5 : zP s = (itoa c.zone, joinB 0 (c.extras.map exT), true) := by unfold zP; rw [e4]; exact d3 he
      have ep : psl 0 (joinB 0 (c.extras.map exT)) = c.extras.map exT := by
        refine psl_join (by simpa using he) fun x hx => ?_
        obtain ⟨y, hy, rfl⟩ := List.mem_map.1 hx
        exact (exT_no (hr.keys y hy)).2.1
      unfold exsP
      rw [e5]
      simp only
      rw [ep, if_pos trivial, List.map_map]
      refine ⟨trivial, ?_, ?_⟩
      · conv => rhs; rw [← List.map_id c.extras]
        exact List.map_congr_left fun x hx => (exP_T (hr.keys x hx)).1
      · rw [Bool.true_and, List.any_eq_false]
        intro o ho
        obtain ⟨y, hy, rfl⟩ := List.mem_map.1 ho
        rw [(exP_T (hr.keys y hy)).2]; simp
  obtain ⟨b1, b2, b3⟩ := eb
  have e6 : badH s = false := by unfold badH bad0; rw [b3, e1, e2, e3, e4, b1]; simp only; rw [m1, m3]; rfl
  have e7 : fG s = (c.desc, false, c.files) := by
    unfold fG
    rw [e6, e3]
    simp only
    refine filesG_app c.files _ c.desc [] ?_ fun x hx => file_no (hr.paths x hx)
    have := flat_ge c.files
    simp only [List.length_append, List.length_cons]; omega
  have ec : chgC s = c := by
    unfold chgC
    rw [e1, e2, e4, b1, b2, e7]
    simp only
    rw [m2, m4, pOut_hex _ h20]
  refine ⟨?_, ec⟩
  unfold chgB
  rw [ec, h, e7, e1]
  simp only
  rw [hex_good _ h20]; rfl
end Go.Proofs.YtfabdnpeohpgnaaGreatDoor
namespace Go.Proofs.YtfabdnpeohpgnaaGreatDoor
set_option linter.all false
open Go.RowKit
def gkeyedS : Spec := fun xs hp => match xs, hp with
  | [.str s], [] => some ⟨.bool (keyedB s), [], s.length ≤ 1000000000⟩
  | _, _ => none
theorem keyC_int (c : UInt8) : keyC c = (((((decide (97 ≤ (c.toNat : Int)) && decide ((c.toNat : Int) ≤ 122)) || (decide (65 ≤ (c.toNat : Int)) && decide ((c.toNat : Int) ≤ 90))) || (decide (48 ≤ (c.toNat : Int)) && decide ((c.toNat : Int) ≤ 57))) || decide ((c.toNat : Int) = 45)) || decide ((c.toNat : Int) = 95)) := by
  unfold keyC
  have h : ∀ a b : Nat, decide (a ≤ b) = decide ((a : Int) ≤ (b : Int)) := fun a b => by rw [Bool.eq_iff_iff]; simp
  have h2 : ∀ a b : Nat, decide (a = b) = decide ((a : Int) = (b : Int)) := fun a b => by rw [Bool.eq_iff_iff, decide_eq_true_eq, decide_eq_true_eq]; omega
  rw [h 97, h _ 122, h 65, h _ 90, h 48, h _ 57, h2 _ 45, h2 _ 95]
  rfl
set_option maxHeartbeats 2000000 in
theorem gkeyed_ok : FnOk Tryz.prog 33 gkeyedS := by
  refine fn_slim2 Tryz.func33 s_gkeyed (Φ := phiL []) phi_nil ?_
  intro xs hp r hs hp'
  unfold gkeyedS at hs
  split at hs
  · injection hs with hs; subst hs
    rename_i s
    have p1 : s.length ≤ 1000000000 := hp'
    refine ⟨len_le (by kernel_rfl), ?_⟩
    simp only [c_gkeyed, go_sem, Nat.reduceDiv, Nat.reduceMod, ↓reduceIte, Nat.reduceEqDiff, Nat.reduceBEq, Nat.reduceSub, Nat.reduceLT, Nat.reduceAdd, Nat.reduceLeDiff, reduceCtorEq, Int.reduceEq, Int.reduceNe, Int.reduceLT, Int.reduceLE, Int.reduceToNat]
    refine ⟨by (first | omega | (simp only [lenOk, bytesOk, inI, IntKind.bits, List.length_append, Bs_len, List.length_cons, List.length_nil, List.length_map, List.length_take, List.length_drop, List.length_replicate]; omega)), ?_⟩
    refine loop2P [] [0, 6, 7, 8] [0] (fun i : Nat => ⟨[(0, .str s), (6, .own 0 0), (7, .int .i64 (s.length : Int)), (8, .int .i64 (i : Int))], [.row 5 1 0 (Bs s)]⟩)
      (fun i => i ≤ s.length ∧ (s.take i).all keyC = true) (fun i => s.length - i) 0 (by rfl) ⟨Nat.zero_le _, by simp⟩ ⟨rfl, by rfl⟩ (fun i hi R hR => ?_)
    obtain ⟨i1, i2⟩ := hi
    by_cases hil : i < s.length
    · have c1 : decide ((i : Int) < (s.length : Int)) = true := decide_eq_true (by omega)
      have hga : s.getD i 0 = s[i] := by simp [List.getD_eq_getElem?_getD, List.getElem?_eq_getElem hil]
      have hk := keyC_int s[i]
      have hlt := s[i].toNat_lt
      have hnext : keyC s[i] = true → (s.take (i + 1)).all keyC = true := fun h => by
        rw [List.take_add_one, List.getElem?_eq_getElem hil, Option.toList_some, List.all_append, i2]; simp [h]
      have hbad : keyC s[i] = false → keyedB s = false := fun h => by
        unfold keyedB
        rw [show s.all keyC = false from List.all_eq_false.2 ⟨s[i], List.getElem_mem _, by rw [h]; simp⟩, Bool.and_false]
      generalize hn : (s[i].toNat : Int) = n at *
      have hn0 : 0 ≤ n := by omega
      have hc : n = 45 ∨ n = 95 ∨ (97 ≤ n ∧ n ≤ 122) ∨ (65 ≤ n ∧ n ≤ 90) ∨ (48 ≤ n ∧ n ≤ 57) ∨ n < 45 ∨ (45 < n ∧ n < 48) ∨ (57 < n ∧ n < 65) ∨ (90 < n ∧ n < 95) ∨ n = 96 ∨ 122 < n := by omega
      have hat : (((s.getD i 0).toNat : Nat) : Int) = n := by rw [hga]; exact hn
      rcases hc with h | h | h | h | h | h | h | h | h | h | h
      all_goals (
        first | have f1 : decide (97 ≤ n) = true := decide_eq_true (by omega) | have f1 : decide (97 ≤ n) = false := decide_eq_false (by omega)
        first | have f2 : decide (n ≤ 122) = true := decide_eq_true (by omega) | have f2 : decide (n ≤ 122) = false := decide_eq_false (by omega)
        first | have f3 : decide (65 ≤ n) = true := decide_eq_true (by omega) | have f3 : decide (65 ≤ n) = false := decide_eq_false (by omega)
        first | have f4 : decide (n ≤ 90) = true := decide_eq_true (by omega) | have f4 : decide (n ≤ 90) = false := decide_eq_false (by omega)
        first | have f5 : decide (48 ≤ n) = true := decide_eq_true (by omega) | have f5 : decide (48 ≤ n) = false := decide_eq_false (by omega)
        first | have f6 : decide (n ≤ 57) = true := decide_eq_true (by omega) | have f6 : decide (n ≤ 57) = false := decide_eq_false (by omega)
        first | have f7 : decide (n = 45) = true := decide_eq_true (by omega) | have f7 : decide (n = 45) = false := decide_eq_false (by omega)
        first | have f8 : decide (n = 95) = true := decide_eq_true (by omega) | have f8 : decide (n = 95) = false := decide_eq_false (by omega)
        rw [f1, f2, f3, f4, f5, f6, f7, f8] at hk
        simp only [Bool.and_true, Bool.and_false, Bool.or_true, Bool.or_false, Bool.true_or, Bool.false_or] at hk
        clear h
        simp only [b_gkeyed_0, r_gkeyed, c1, hat, f1, f2, f3, f4, f5, f6, f7, f8, Int.toNat_natCast, go_sem, Nat.reduceDiv, Nat.reduceMod, ↓reduceIte, Nat.reduceEqDiff, Nat.reduceBEq, Nat.reduceSub, Nat.reduceLT, Nat.reduceAdd, Nat.reduceLeDiff, reduceCtorEq, Int.reduceEq, Int.reduceNe, Int.reduceLT, Int.reduceLE, Int.reduceToNat])
      all_goals first | exact ⟨⟨by omega, by omega⟩, hil, ⟨by omega, by omega⟩, hR _ (i + 1) ⟨hil, hnext hk⟩ (by omega) rfl⟩ | exact ⟨⟨by omega, by omega⟩, hil, by rw [hbad hk]⟩
    · have c1 : decide ((i : Int) < (s.length : Int)) = false := decide_eq_false (by omega)
      rw [List.take_of_length_le (by omega)] at i2
      have hl2 : decide ((s.length : Int) ≤ 100) = decide (s.length ≤ 100) := by rw [Bool.eq_iff_iff]; simp; omega
      have hkb : keyedB s = (!decide (s = []) && decide (s.length ≤ 100)) := by unfold keyedB; rw [i2, Bool.and_true]; simp
      rw [hkb]
      cases h1 : decide (s = []) with
      | true =>
        simp only [b_gkeyed_0, t_gkeyed_0, r_gkeyed, c1, h1, hl2, Bool.not_true, Bool.false_and, go_sem, Nat.reduceDiv, Nat.reduceMod, ↓reduceIte, Nat.reduceEqDiff, Nat.reduceBEq, Nat.reduceSub, Nat.reduceLT, Nat.reduceAdd, Nat.reduceLeDiff, reduceCtorEq, Int.reduceEq, Int.reduceNe, Int.reduceLT, Int.reduceLE, Int.reduceToNat]
      | false =>
        simp only [b_gkeyed_0, t_gkeyed_0, r_gkeyed, c1, h1, hl2, Bool.not_false, Bool.true_and, go_sem, Nat.reduceDiv, Nat.reduceMod, ↓reduceIte, Nat.reduceEqDiff, Nat.reduceBEq, Nat.reduceSub, Nat.reduceLT, Nat.reduceAdd, Nat.reduceLeDiff, reduceCtorEq, Int.reduceEq, Int.reduceNe, Int.reduceLT, Int.reduceLE, Int.reduceToNat]
  · cases hs
def gtoldS : Spec := fun xs hp => match xs, hp with
  | [.str s], [] => some ⟨.str (tolL s), [], s.length ≤ 100000000⟩
  | _, _ => none
theorem tol_take (s : List UInt8) {i : Nat} (h : i < s.length) : tolL (s.take (i + 1)) = tolL (s.take i) ++ escC s[i] := by
  unfold tolL
  rw [List.take_add_one, List.getElem?_eq_getElem h, Option.toList_some, List.flatMap_append, List.flatMap_cons, List.flatMap_nil, List.append_nil]
theorem tol_len (s : List UInt8) : (tolL s).length ≤ 2 * s.length := by
  unfold tolL
  induction s with
  | nil => simp
  | cons c s ih =>
    rw [List.flatMap_cons, List.length_append, List.length_cons]
    have : (escC c).length ≤ 2 := by unfold escC; repeat' split
                                     all_goals simp
    omega
theorem tol_take_len (s : List UInt8) (i : Nat) : (tolL (s.take i)).length ≤ 2 * s.length := by
  have h1 := tol_len (s.take i)
  rw [List.length_take] at h1; omega
def bldX (i : Nat) : AV := if i = 0 then .con (.pointer none) else .ref 0 0 0
theorem bldX_or (i : Nat) : bldX i = .con (.pointer none) ∨ bldX i = .ref 0 0 0 := by
  unfold bldX; split
  · exact .inl rfl
  · exact .inr rfl
def phiB : Phi := phiL [(37, [], bwsS), (38, [], bwbS), (39, [], bstrS)]
theorem phiB_ok : PhiOk Tryz.prog phiB := phi_cons bws_ok (by kernel_rfl) (phi_cons bwb_ok (by kernel_rfl) (phi_cons bstr_ok (by kernel_rfl) phi_nil))
theorem phiB_1 : phiB 37 = some ([], bwsS) := rfl
theorem phiB_2 : phiB 38 = some ([], bwbS) := rfl
theorem phiB_3 : phiB 39 = some ([], bstrS) := rfl
set_option maxHeartbeats 2000000 in
theorem gtold_ok : FnOk Tryz.prog 16 gtoldS := by
  refine fn_slim2 Tryz.func16 s_gtold phiB_ok ?_
  intro xs hp r hs hp'
  unfold gtoldS at hs
  split at hs
  · injection hs with hs; subst hs
    rename_i s
    have p1 : s.length ≤ 100000000 := hp'
    refine ⟨len_le (by kernel_rfl), ?_⟩
    simp only [c_gtold, go_sem, Nat.reduceDiv, Nat.reduceMod, ↓reduceIte, Nat.reduceEqDiff, Nat.reduceBEq, Nat.reduceSub, Nat.reduceLT, Nat.reduceAdd, Nat.reduceLeDiff, reduceCtorEq, Int.reduceEq, Int.reduceNe, Int.reduceLT, Int.reduceLE, Int.reduceToNat]
    refine ⟨by (first | omega | (simp only [lenOk, bytesOk, inI, IntKind.bits, List.length_append, Bs_len, List.length_cons, List.length_nil, List.length_map, List.length_take, List.length_drop, List.length_replicate]; omega)), ?_⟩
    refine loop2P [(4097, 5, 1)] [0, 3, 7, 8, 9] [0, 1, 2] (fun i : Nat => ⟨[(0, .str s), (3, .ref 0 0 0), (7, .own 1 0), (8, .int .i64 (s.length : Int)), (9, .int .i64 (i : Int))],
      [.cells 75 [(1, bldX i), (1, .own 2 i)], .row 5 1 0 (Bs s), .row 5 1 i (Bs (tolL (s.take i)))]⟩)
      (fun i => i ≤ s.length) (fun i => s.length - i) 0 (by rfl) (Nat.zero_le _) ⟨rfl, by rfl⟩ (fun i hi R hR => ?_)
    have hX0 : selfX (.con (.pointer none)) = true := rfl
    have hX1 : selfX (.ref 0 0 0) = true := rfl
    by_cases hil : i < s.length
    · have c1 : decide ((i : Int) < (s.length : Int)) = true := decide_eq_true (by omega)
      have hga : s.getD i 0 = s[i] := by simp [List.getD_eq_getElem?_getD, List.getElem?_eq_getElem hil]
      have htk := tol_take s hil
      have htl := tol_take_len s i
      have htl2 := tol_take_len s (i + 1)
      have hb1 : bldX (i + 1) = .ref 0 0 0 := rfl
      generalize hc : s[i] = c at *
      have hcn : ∀ k : UInt8, decide (((c.toNat : Nat) : Int) = ((k.toNat : Nat) : Int)) = decide (c = k) := fun k => by
        rw [Bool.eq_iff_iff, decide_eq_true_eq, decide_eq_true_eq]
        constructor
        · intro h; exact UInt8.toNat_inj.1 (by omega)
        · rintro rfl; rfl
      have g1 := hcn 92
      have g2 := hcn 10
      have g3 := hcn 13
      have g4 := hcn 0
      have g1 : decide (((c.toNat : Nat) : Int) = 92) = decide (c = 92) := g1
      have g2 : decide (((c.toNat : Nat) : Int) = 10) = decide (c = 10) := g2
      have g3 : decide (((c.toNat : Nat) : Int) = 13) = decide (c = 13) := g3
      have g4 : decide (((c.toNat : Nat) : Int) = 0) = decide (c = 0) := g4
      have fin : ∀ e : List UInt8, escC c = e → tolL (s.take (i + 1)) = tolL (s.take i) ++ e := fun e he => by rw [htk, he]
      rcases bldX_or i with hbi | hbi
      all_goals (
        by_cases h1 : c = 92
        · have d1 : decide (c = 92) = true := decide_eq_true h1
          have e := fin [92, 92] (by rw [h1]; rfl)
          simp only [b_gtold_0, hbi, c1, hga, g1, d1, phiB_1, bwsS, hX0, hX1, if_true, Int.toNat_natCast, go_sem, Nat.reduceDiv, Nat.reduceMod, ↓reduceIte, Nat.reduceEqDiff, Nat.reduceBEq, Nat.reduceSub, Nat.reduceLT, Nat.reduceAdd, Nat.reduceLeDiff, reduceCtorEq, Int.reduceEq, Int.reduceNe, Int.reduceLT, Int.reduceLE, Int.reduceToNat]
          exact ⟨⟨by omega, by omega⟩, hil, by (first | omega | (simp only [lenOk, bytesOk, inI, IntKind.bits, List.length_append, Bs_len, List.length_cons, List.length_nil, List.length_map, List.length_take, List.length_drop, List.length_replicate]; omega)), ⟨by omega, by omega⟩, hR _ (i + 1) hil (by omega) (by simp only [hb1, e, ← Bs_app]; rfl)⟩
        have d1 : decide (c = 92) = false := decide_eq_false h1
        by_cases h2 : c = 10
        · have d2 : decide (c = 10) = true := decide_eq_true h2
          have e := fin [92, 110] (by rw [h2]; rfl)
          simp only [b_gtold_0, hbi, c1, hga, g1, d1, g2, d2, phiB_1, bwsS, hX0, hX1, if_true, Int.toNat_natCast, go_sem, Nat.reduceDiv, Nat.reduceMod, ↓reduceIte, Nat.reduceEqDiff, Nat.reduceBEq, Nat.reduceSub, Nat.reduceLT, Nat.reduceAdd, Nat.reduceLeDiff, reduceCtorEq, Int.reduceEq, Int.reduceNe, Int.reduceLT, Int.reduceLE, Int.reduceToNat]
          exact ⟨⟨by omega, by omega⟩, hil, by (first | omega | (simp only [lenOk, bytesOk, inI, IntKind.bits, List.length_append, Bs_len, List.length_cons, List.length_nil, List.length_map, List.length_take, List.length_drop, List.length_replicate]; omega)), ⟨by omega, by omega⟩, hR _ (i + 1) hil (by omega) (by simp only [hb1, e, ← Bs_app]; rfl)⟩
        have d2 : decide (c = 10) = false := decide_eq_false h2
        by_cases h3 : c = 13
        · have d3 : decide (c = 13) = true := decide_eq_true h3
          have e := fin [92, 114] (by rw [h3]; rfl)
          simp only [b_gtold_0, hbi, c1, hga, g1, d1, g2, d2, g3, d3, phiB_1, bwsS, hX0, hX1, if_true, Int.toNat_natCast, go_sem, Nat.reduceDiv, Nat.reduceMod, ↓reduceIte, Nat.reduceEqDiff, Nat.reduceBEq, Nat.reduceSub, Nat.reduceLT, Nat.reduceAdd, Nat.reduceLeDiff, reduceCtorEq, Int.reduceEq, Int.reduceNe, Int.reduceLT, Int.reduceLE, Int.reduceToNat]
          exact ⟨⟨by omega, by omega⟩, hil, by (first | omega | (simp only [lenOk, bytesOk, inI, IntKind.bits, List.length_append, Bs_len, List.length_cons, List.length_nil, List.length_map, List.length_take, List.length_drop, List.length_replicate]; omega)), ⟨by omega, by omega⟩, hR _ (i + 1) hil (by omega) (by simp only [hb1, e, ← Bs_app]; rfl)⟩
        have d3 : decide (c = 13) = false := decide_eq_false h3
        by_cases h4 : c = 0
        · have d4 : decide (c = 0) = true := decide_eq_true h4
          have e := fin [92, 48] (by rw [h4]; rfl)
          simp only [b_gtold_0, hbi, c1, hga, g1, d1, g2, d2, g3, d3, g4, d4, phiB_1, bwsS, hX0, hX1, if_true, Int.toNat_natCast, go_sem, Nat.reduceDiv, Nat.reduceMod, ↓reduceIte, Nat.reduceEqDiff, Nat.reduceBEq, Nat.reduceSub, Nat.reduceLT, Nat.reduceAdd, Nat.reduceLeDiff, reduceCtorEq, Int.reduceEq, Int.reduceNe, Int.reduceLT, Int.reduceLE, Int.reduceToNat]
          exact ⟨⟨by omega, by omega⟩, hil, by (first | omega | (simp only [lenOk, bytesOk, inI, IntKind.bits, List.length_append, Bs_len, List.length_cons, List.length_nil, List.length_map, List.length_take, List.length_drop, List.length_replicate]; omega)), ⟨by omega, by omega⟩, hR _ (i + 1) hil (by omega) (by simp only [hb1, e, ← Bs_app]; rfl)⟩
        have d4 : decide (c = 0) = false := decide_eq_false h4
        have e := fin [c] (by unfold escC; rw [if_neg h1, if_neg h2, if_neg h3, if_neg h4])
        simp only [b_gtold_0, hbi, c1, hga, g1, d1, g2, d2, g3, d3, g4, d4, phiB_2, bwbS, hX0, hX1, if_true, Int.toNat_natCast, go_sem, Nat.reduceDiv, Nat.reduceMod, ↓reduceIte, Nat.reduceEqDiff, Nat.reduceBEq, Nat.reduceSub, Nat.reduceLT, Nat.reduceAdd, Nat.reduceLeDiff, reduceCtorEq, Int.reduceEq, Int.reduceNe, Int.reduceLT, Int.reduceLE, Int.reduceToNat]
        exact ⟨⟨by omega, by omega⟩, hil, by (first | omega | (simp only [lenOk, bytesOk, inI, IntKind.bits, List.length_append, Bs_len, List.length_cons, List.length_nil, List.length_map, List.length_take, List.length_drop, List.length_replicate]; omega)), ⟨by omega, by omega⟩, hR _ (i + 1) hil (by omega) (by simp only [hb1, e, ← Bs_push]; rfl)⟩)
    · have c1 : decide ((i : Int) < (s.length : Int)) = false := decide_eq_false (by omega)
      obtain rfl : i = s.length := by omega
      rw [List.take_length]
      rcases bldX_or s.length with hbi | hbi
      all_goals simp only [b_gtold_0, t_gtold_0, r_gtold, hbi, c1, phiB_3, bstrS, unB_Bs, if_true, go_sem, Nat.reduceDiv, Nat.reduceMod, ↓reduceIte, Nat.reduceEqDiff, Nat.reduceBEq, Nat.reduceSub, Nat.reduceLT, Nat.reduceAdd, Nat.reduceLeDiff, reduceCtorEq, Int.reduceEq, Int.reduceNe, Int.reduceLT, Int.reduceLE, Int.reduceToNat]
  · cases hs
end Go.Proofs.YtfabdnpeohpgnaaGreatDoor
namespace Go.Proofs.YtfabdnpeohpgnaaGreatDoor
set_option linter.all false
open Go.RowKit
def gmeantS : Spec := fun xs hp => match xs, hp with
  | [.str s], [] => some ⟨.str (meaL s), [], s.length ≤ 100000000⟩
  | _, _ => none
theorem mea_len : ∀ s : List UInt8, (meaL s).length ≤ s.length
  | [] => Nat.le_refl _
  | [c] => Nat.le_refl _
  | c :: d :: r => by
    rw [meaL]
    split
    · have := mea_len r; simp only [List.length_cons]; omega
    · have := mea_len (d :: r); simp only [List.length_cons] at this ⊢; omega
theorem at8_nat {l : List UInt8} {i : Nat} (h : i < l.length) : at8 l i = ((l[i].toNat : Nat) : Int) := by
  unfold at8; rw [List.getD_eq_getElem?_getD, List.getElem?_eq_getElem h]; rfl
theorem u8_eq (c k : UInt8) : decide (((c.toNat : Nat) : Int) = ((k.toNat : Nat) : Int)) = decide (c = k) := by
  rw [Bool.eq_iff_iff, decide_eq_true_eq, decide_eq_true_eq]
  constructor
  · intro h; exact UInt8.toNat_inj.1 (by omega)
  · rintro rfl; rfl
set_option maxHeartbeats 2000000 in
theorem gmeant_ok : FnOk Tryz.prog 48 gmeantS := by
  refine fn_slim2 Tryz.func48 s_gmeant phiB_ok ?_
  intro xs hp r hs hp'
  unfold gmeantS at hs
  split at hs
  · injection hs with hs; subst hs
    rename_i s
    have p1 : s.length ≤ 100000000 := hp'
    refine ⟨len_le (by kernel_rfl), ?_⟩
    simp only [c_gmeant, go_sem, Nat.reduceDiv, Nat.reduceMod, ↓reduceIte, Nat.reduceEqDiff, Nat.reduceBEq, Nat.reduceSub, Nat.reduceLT, Nat.reduceAdd, Nat.reduceLeDiff, reduceCtorEq, Int.reduceEq, Int.reduceNe, Int.reduceLT, Int.reduceLE, Int.reduceToNat]
    have hml := mea_len s
    refine loop2P [(4097, 5, 1)] [0, 3, 4] [0, 1] (fun q : Nat × Nat × List UInt8 => ⟨[(0, .str s), (3, .ref 0 0 0), (4, .int .i64 (q.1 : Int))],
      [.cells 75 [(1, bldX q.2.1), (1, .own 1 q.2.1)], .row 5 1 q.2.1 (Bs q.2.2)]⟩)
      (fun q => q.1 ≤ s.length ∧ q.2.2 ++ meaL (s.drop q.1) = meaL s) (fun q => s.length - q.1) (0, 0, []) (by rfl) ⟨Nat.zero_le _, rfl⟩ ⟨rfl, by rfl⟩ (fun q hq R hR => ?_)
    obtain ⟨i, v, w⟩ := q
    simp only at hq hR ⊢
    obtain ⟨i1, i2⟩ := hq
    have hX0 : selfX (.con (.pointer none)) = true := rfl
    have hX1 : selfX (.ref 0 0 0) = true := rfl
    have hb1 : bldX (v + 1) = .ref 0 0 0 := rfl
    have hwl : w.length ≤ s.length := by have := congrArg List.length i2; rw [List.length_append] at this; omega
    have hb : ∀ u : UInt8, Bs w ++ [AV.int .u8 ((u.toNat : Nat) : Int)] = Bs (w ++ [u]) := fun u => Bs_push
    have hb10 : Bs w ++ [AV.int .u8 10] = Bs (w ++ [10]) := hb 10
    have hb13 : Bs w ++ [AV.int .u8 13] = Bs (w ++ [13]) := hb 13
    have hb00 : Bs w ++ [AV.int .u8 0] = Bs (w ++ [0]) := hb 0
    by_cases hil : i < s.length
    · have c1 : decide ((i : Int) < (s.length : Int)) = true := decide_eq_true (by omega)
      have hd : s.drop i = s[i] :: s.drop (i + 1) := List.drop_eq_getElem_cons hil
      have hat := at8_nat hil
      have e1 : ((i : Int) + 1).toNat = i + 1 := by omega
      rw [hd] at i2
      generalize hc : s[i] = c at *
      have g1 : decide (((c.toNat : Nat) : Int) = 92) = decide (c = 92) := u8_eq c 92
      by_cases h1 : c = 92
      · have d1 : decide (c = 92) = true := decide_eq_true h1
        by_cases hl2 : i + 1 < s.length
        · have c2 : decide ((i : Int) + 1 = (s.length : Int)) = false := decide_eq_false (by omega)
          have hat2 := at8_nat hl2
          have hd2 : s.drop (i + 1) = s[i + 1] :: s.drop (i + 1 + 1) := List.drop_eq_getElem_cons hl2
          rw [hd2, h1, mea_pair] at i2
          generalize hdd : s[i + 1] = d at *
          have k1 : decide (((d.toNat : Nat) : Int) = 110) = decide (d = 110) := u8_eq d 110
          have k2 : decide (((d.toNat : Nat) : Int) = 114) = decide (d = 114) := u8_eq d 114
          have k3 : decide (((d.toNat : Nat) : Int) = 48) = decide (d = 48) := u8_eq d 48
          have fin : ∀ e : UInt8, meC d = e → (w ++ [e]) ++ meaL (s.drop (i + 1 + 1)) = meaL s := fun e he => by rw [← i2, he]; simp
          rcases bldX_or v with hbi | hbi
          all_goals (
            by_cases m1 : d = 110
            · have j1 : decide (d = 110) = true := decide_eq_true m1
              have e := fin 10 (by rw [m1]; rfl)
              simp only [b_gmeant_0, hbi, c1, c2, hat, hat2, g1, d1, k1, j1, e1, phiB_2, bwbS, hX0, hX1, if_true, Int.toNat_natCast, go_sem, Nat.reduceDiv, Nat.reduceMod, ↓reduceIte, Nat.reduceEqDiff, Nat.reduceBEq, Nat.reduceSub, Nat.reduceLT, Nat.reduceAdd, Nat.reduceLeDiff, reduceCtorEq, Int.reduceEq, Int.reduceNe, Int.reduceLT, Int.reduceLE, Int.reduceToNat]
              exact ⟨⟨by omega, by omega⟩, ⟨by omega, by omega⟩, ⟨by omega, by omega⟩, ⟨by omega, by omega⟩, by (first | omega | (simp only [lenOk, bytesOk, inI, IntKind.bits, List.length_append, Bs_len, List.length_cons, List.length_nil, List.length_map, List.length_take, List.length_drop, List.length_replicate]; omega)), ⟨by omega, by omega⟩, hR _ (i + 1 + 1, v + 1, w ++ [10]) ⟨by simp only; omega, e⟩ (by simp only; omega) (by simp only [hb1, hb10]; rfl)⟩
            have j1 : decide (d = 110) = false := decide_eq_false m1
            by_cases m2 : d = 114
            · have j2 : decide (d = 114) = true := decide_eq_true m2
              have e := fin 13 (by rw [m2]; rfl)
              simp only [b_gmeant_0, hbi, c1, c2, hat, hat2, g1, d1, k1, j1, k2, j2, e1, phiB_2, bwbS, hX0, hX1, if_true, Int.toNat_natCast, go_sem, Nat.reduceDiv, Nat.reduceMod, ↓reduceIte, Nat.reduceEqDiff, Nat.reduceBEq, Nat.reduceSub, Nat.reduceLT, Nat.reduceAdd, Nat.reduceLeDiff, reduceCtorEq, Int.reduceEq, Int.reduceNe, Int.reduceLT, Int.reduceLE, Int.reduceToNat]
              exact ⟨⟨by omega, by omega⟩, ⟨by omega, by omega⟩, ⟨by omega, by omega⟩, ⟨by omega, by omega⟩, by (first | omega | (simp only [lenOk, bytesOk, inI, IntKind.bits, List.length_append, Bs_len, List.length_cons, List.length_nil, List.length_map, List.length_take, List.length_drop, List.length_replicate]; omega)), ⟨by omega, by omega⟩, hR _ (i + 1 + 1, v + 1, w ++ [13]) ⟨by simp only; omega, e⟩ (by simp only; omega) (by simp only [hb1, hb13]; rfl)⟩
            have j2 : decide (d = 114) = false := decide_eq_false m2
            by_cases m3 : d = 48
            · have j3 : decide (d = 48) = true := decide_eq_true m3
              have e := fin 0 (by rw [m3]; rfl)
              simp only [b_gmeant_0, hbi, c1, c2, hat, hat2, g1, d1, k1, j1, k2, j2, k3, j3, e1, phiB_2, bwbS, hX0, hX1, if_true, Int.toNat_natCast, go_sem, Nat.reduceDiv, Nat.reduceMod, ↓reduceIte, Nat.reduceEqDiff, Nat.reduceBEq, Nat.reduceSub, Nat.reduceLT, Nat.reduceAdd, Nat.reduceLeDiff, reduceCtorEq, Int.reduceEq, Int.reduceNe, Int.reduceLT, Int.reduceLE, Int.reduceToNat]
              exact ⟨⟨by omega, by omega⟩, ⟨by omega, by omega⟩, ⟨by omega, by omega⟩, ⟨by omega, by omega⟩, by (first | omega | (simp only [lenOk, bytesOk, inI, IntKind.bits, List.length_append, Bs_len, List.length_cons, List.length_nil, List.length_map, List.length_take, List.length_drop, List.length_replicate]; omega)), ⟨by omega, by omega⟩, hR _ (i + 1 + 1, v + 1, w ++ [0]) ⟨by simp only; omega, e⟩ (by simp only; omega) (by simp only [hb1, hb00]; rfl)⟩
            have j3 : decide (d = 48) = false := decide_eq_false m3
            have e := fin d (by unfold meC; rw [if_neg m1, if_neg m2, if_neg m3])
            simp only [b_gmeant_0, hbi, c1, c2, hat, hat2, g1, d1, k1, j1, k2, j2, k3, j3, e1, phiB_2, bwbS, hX0, hX1, if_true, Int.toNat_natCast, go_sem, Nat.reduceDiv, Nat.reduceMod, ↓reduceIte, Nat.reduceEqDiff, Nat.reduceBEq, Nat.reduceSub, Nat.reduceLT, Nat.reduceAdd, Nat.reduceLeDiff, reduceCtorEq, Int.reduceEq, Int.reduceNe, Int.reduceLT, Int.reduceLE, Int.reduceToNat]
            exact ⟨⟨by omega, by omega⟩, ⟨by omega, by omega⟩, ⟨by omega, by omega⟩, ⟨by omega, by omega⟩, ⟨by omega, by omega⟩, by (first | omega | (simp only [lenOk, bytesOk, inI, IntKind.bits, List.length_append, Bs_len, List.length_cons, List.length_nil, List.length_map, List.length_take, List.length_drop, List.length_replicate]; omega)), ⟨by omega, by omega⟩, hR _ (i + 1 + 1, v + 1, w ++ [d]) ⟨by simp only; omega, e⟩ (by simp only; omega) (by simp only [hb1, hb]; rfl)⟩)
        · have c2 : decide ((i : Int) + 1 = (s.length : Int)) = true := decide_eq_true (by omega)
          have hd2 : s.drop (i + 1) = [] := List.drop_of_length_le (by omega)
          rw [hd2] at i2
          have e : (w ++ [c]) ++ meaL (s.drop (i + 1)) = meaL s := by rw [hd2, ← i2]; simp [meaL]
          rcases bldX_or v with hbi | hbi
          all_goals (
            simp only [b_gmeant_0, hbi, c1, c2, hat, g1, d1, phiB_2, bwbS, hX0, hX1, if_true, Int.toNat_natCast, go_sem, Nat.reduceDiv, Nat.reduceMod, ↓reduceIte, Nat.reduceEqDiff, Nat.reduceBEq, Nat.reduceSub, Nat.reduceLT, Nat.reduceAdd, Nat.reduceLeDiff, reduceCtorEq, Int.reduceEq, Int.reduceNe, Int.reduceLT, Int.reduceLE, Int.reduceToNat]
            exact ⟨⟨by omega, by omega⟩, ⟨by omega, by omega⟩, ⟨by omega, by omega⟩, by (first | omega | (simp only [lenOk, bytesOk, inI, IntKind.bits, List.length_append, Bs_len, List.length_cons, List.length_nil, List.length_map, List.length_take, List.length_drop, List.length_replicate]; omega)), ⟨by omega, by omega⟩, hR _ (i + 1, v + 1, w ++ [c]) ⟨hil, e⟩ (by simp only; omega) (by simp only [hb1, hb]; rfl)⟩)
      · have d1 : decide (c = 92) = false := decide_eq_false h1
        rw [mea_other h1] at i2
        rcases bldX_or v with hbi | hbi
        all_goals (
          simp only [b_gmeant_0, hbi, c1, hat, g1, d1, phiB_2, bwbS, hX0, hX1, if_true, Int.toNat_natCast, go_sem, Nat.reduceDiv, Nat.reduceMod, ↓reduceIte, Nat.reduceEqDiff, Nat.reduceBEq, Nat.reduceSub, Nat.reduceLT, Nat.reduceAdd, Nat.reduceLeDiff, reduceCtorEq, Int.reduceEq, Int.reduceNe, Int.reduceLT, Int.reduceLE, Int.reduceToNat]
          exact ⟨⟨by omega, by omega⟩, ⟨by omega, by omega⟩, by (first | omega | (simp only [lenOk, bytesOk, inI, IntKind.bits, List.length_append, Bs_len, List.length_cons, List.length_nil, List.length_map, List.length_take, List.length_drop, List.length_replicate]; omega)), ⟨by omega, by omega⟩, hR _ (i + 1, v + 1, w ++ [c]) ⟨hil, by rw [← i2]; simp⟩ (by simp only; omega) (by simp only [hb1, hb]; rfl)⟩)
    · have c1 : decide ((i : Int) < (s.length : Int)) = false := decide_eq_false (by omega)
      rw [List.drop_of_length_le (by omega)] at i2
      have i2 : w = meaL s := by rw [← i2]; simp [meaL]
      subst i2
      rcases bldX_or v with hbi | hbi
      all_goals simp only [b_gmeant_0, t_gmeant_0, r_gmeant, hbi, c1, phiB_3, bstrS, unB_Bs, if_true, go_sem, Nat.reduceDiv, Nat.reduceMod, ↓reduceIte, Nat.reduceEqDiff, Nat.reduceBEq, Nat.reduceSub, Nat.reduceLT, Nat.reduceAdd, Nat.reduceLeDiff, reduceCtorEq, Int.reduceEq, Int.reduceNe, Int.reduceLT, Int.reduceLE, Int.reduceToNat]
  · cases hs
end Go.Proofs.YtfabdnpeohpgnaaGreatDoor
namespace Go.Proofs.YtfabdnpeohpgnaaGreatDoor
set_option linter.all false
open Go.RowKit
open Go.Lib (index hasPrefix trimPrefix cut indexAny)
def cutPreS : Spec := fun xs hp => match xs, hp with
  | [.str s, .str p], [] => some ⟨.tup [.str (trimPrefix s p), .bool (hasPrefix s p)], [], True⟩
  | _, _ => none
theorem cutPre_ok : FnOk Tryz.prog 45 cutPreS := by
  refine fnok_of_calls fun xs0 hp r hs hp' => ?_
  unfold cutPreS at hs
  split at hs
  · rename_i s p
    injection hs with hs; subst hs
    refine ⟨rfl, rfl, fun w S ρ args hS ha => ?_⟩
    obtain ⟨v, vs, rfl, hv, hr⟩ := ha.get _ _ rfl
    obtain ⟨u, us, rfl, hu, hr⟩ := hr.get _ _ rfl
    obtain rfl := hr.none
    rw [hv.str, hu.str]
    refine (Tryz.strings_CutPrefix ⟨s.toArray⟩ ⟨p.toArray⟩ w).mono ?_
    rintro e w' ⟨rfl, rfl⟩
    exact ⟨_, rfl, Below.refl _ _, fun _ _ _ => Vl.tup2 (Vl.str' _) (Vl.bool' _)⟩
  · cases hs
end Go.Proofs.YtfabdnpeohpgnaaGreatDoor
namespace Go.Proofs.YtfabdnpeohpgnaaGreatDoor
set_option linter.all false
open Go.RowKit
open Go.Lib (index hasPrefix trimPrefix cut indexAny)
theorem maxLen_cell {w : World} {S : Nat → Prop} (h : GlobOk w S) : ∃ m, w.cell? ⟨0, 0, none⟩ = some (.int .i64 m) := (h.2 0 (by kernel_rfl)).2
def cutS : Spec := fun xs hp => match xs, hp with
  | [.str s, .str p], [] => some ⟨.tup [.str (cut s p).1, .str (cut s p).2.1, .bool (cut s p).2.2], [], s.length < 4294967281⟩
  | _, _ => none
theorem cut_ok : FnOk Tryz.prog 26 cutS := by
  refine fnok_of_calls fun xs0 hp r hs hp' => ?_
  unfold cutS at hs
  split at hs
  · rename_i s p
    injection hs with hs; subst hs
    refine ⟨rfl, rfl, fun w S ρ args hS ha => ?_⟩
    obtain ⟨m, hm⟩ := maxLen_cell ha.glob
    obtain ⟨v, vs, rfl, hv, hr⟩ := ha.get _ _ rfl
    obtain ⟨u, us, rfl, hu, hr⟩ := hr.get _ _ rfl
    obtain rfl := hr.none
    rw [hv.str, hu.str]
    refine (Tryz.strings_Cut ⟨s.toArray⟩ ⟨p.toArray⟩ m w (by rw [Lib.size_eq]; exact hp') hm).mono ?_
    rintro e w' ⟨rfl, n, rfl⟩
    exact ⟨_, rfl, belowN (Below.refl _ _) n, fun _ _ _ => Vl.tup3 (Vl.str' _) (Vl.str' _) (Vl.bool' _)⟩
  · cases hs
end Go.Proofs.YtfabdnpeohpgnaaGreatDoor
namespace Go.Proofs.YtfabdnpeohpgnaaGreatDoor
set_option linter.all false
open Go.RowKit
open Go.Lib (index hasPrefix trimPrefix cut indexAny)
theorem css_strs {w : World} {S : Nat → Prop} {ρ : Rho} : ∀ ps : List (List UInt8), Css w S ρ (prs 1 (ps.map AV.str)) (ps.map fun l => Value.string ⟨l.toArray⟩)
  | [] => rfl
  | l :: ps => ⟨[_], _, rfl, rfl, .str l, css_strs ps⟩
def splitS : Spec := fun xs hp => match xs, hp with
  | [.str s, .str [c]], [] => some ⟨.own 0 0, [.row 9 1 0 ((psl c s).map AV.str)], s.length < 4294967281⟩
  | _, _ => none
theorem split_ok : FnOk Tryz.prog 47 splitS := by
  refine fnok_row fun xs0 hp r hs hp' => ?_
  unfold splitS at hs
  split at hs
  · rename_i s c
    injection hs with hs; subst hs
    refine ⟨rfl, _, _, _, rfl, rfl, fun w S ρ args hS ha => ?_⟩
    obtain ⟨m, hm⟩ := maxLen_cell ha.glob
    obtain ⟨v, vs, rfl, hv, hr⟩ := ha.get _ _ rfl
    obtain ⟨u, us, rfl, hu, hr⟩ := hr.get _ _ rfl
    obtain rfl := hr.none
    rw [hv.str, hu.str]
    refine (Tryz.strings_Split ⟨s.toArray⟩ ⟨[c].toArray⟩ m w (by rw [Lib.size_eq]; exact hp') hm (Nat.le_refl 1)).mono ?_
    rintro e w' ⟨rfl, rfl⟩
    have e1 : (Lib.splitB ⟨[c].toArray⟩ 0 (Lib.countB ⟨s.toArray⟩ ⟨[c].toArray⟩) ⟨s.toArray⟩).map (·.data.toList) = psl c s := by
      rw [Lib.splitB_data]; exact splitK_psl c s
    obtain ⟨X, hX⟩ : ∃ X, Lib.splitB ⟨[c].toArray⟩ 0 (Lib.countB ⟨s.toArray⟩ ⟨[c].toArray⟩) ⟨s.toArray⟩ = X := ⟨_, rfl⟩
    have e2 : X.length = Lib.countB ⟨s.toArray⟩ ⟨[c].toArray⟩ + 1 := by rw [← hX]; exact Lib.splitB_all ⟨[c].toArray⟩ (Nat.le_refl 1) 0 _ _ rfl
    rw [hX] at e1
    have e3 : X.map Value.string = (psl c s).map fun l => Value.string ⟨l.toArray⟩ := by
      rw [← e1, List.map_map]
      refine List.map_congr_left fun x _ => ?_
      simp only [Function.comp_apply, of_bs]
    have e4 : (psl c s).length = Lib.countB ⟨s.toArray⟩ ⟨[c].toArray⟩ + 1 := by rw [← e1, List.length_map, e2]
    have e5 := psl_join_len c s
    have hp2 : s.length < 4294967281 := hp'
    rw [hX, e3, ← e4]
    refine ⟨w.heap.size, _, _, _, ((psl c s).map fun l => Value.string ⟨l.toArray⟩).toArray, (0, 0), rfl, (Below.refl _ _).alloc (Nat.le_refl _) _, Nat.le_refl _, ?_, .inl rfl, Nat.le_refl _, by omega, by simp, ?_, by simp, by simp, css_strs _⟩
    · show (w.heap.push (Obj.cells _ _ _))[w.heap.size]? = _
      simp
    · rw [List.take_of_length_le (by simp)]
  · cases hs
end Go.Proofs.YtfabdnpeohpgnaaGreatDoor
