/- Plain words of layers 6 and 15: big-endian numbers, what a patch's bytes are, what becomes of a base. No program here. -/
import Derived.Test.YtjdlngbobnknmaaDoorMem
namespace Go.Proofs.YtjdlngbobnknmaaDoor
set_option linter.all false
open Go.RowKit

/-- The k lowest bytes of a number, the highest first. -/
def be : Nat → Nat → List UInt8
  | 0, _ => []
  | k + 1, n => byteOf ((n / 256 ^ k % 256 : Nat) : Int) :: be k n
theorem be_len (k n : Nat) : (be k n).length = k := by induction k with | zero => rfl | succ k ih => simp [be, ih]

theorem be_get (k n : Nat) : ∀ i, i < k → (be k n)[i]? = some (byteOf ((n / 256 ^ (k - 1 - i) % 256 : Nat) : Int)) := by
  induction k with
  | zero => intro i h; omega
  | succ k ih =>
    intro i h
    cases i with
    | zero => simp [be]
    | succ i =>
      simp only [be, List.getElem?_cons_succ]
      rw [ih i (by omega)]
      congr 6
      omega
theorem be_step (k n m : Nat) (h1 : 1 ≤ m) (h2 : m ≤ k) : (be k n).take (k - m) ++ [byteOf ((n : Int) / 2 ^ (8 * (m - 1)) % 256)] = (be k n).take (k - (m - 1)) := by
  rw [show k - (m - 1) = (k - m) + 1 by omega, List.take_add_one, be_get k n _ (by omega)]
  have e : (n : Int) / 2 ^ (8 * (m - 1)) % 256 = ((n / 256 ^ (k - 1 - (k - m)) % 256 : Nat) : Int) := by
    rw [show k - 1 - (k - m) = m - 1 by omega, Int.natCast_emod, Int.natCast_ediv, Int.natCast_pow, show ((256 : Nat) : Int) = 2 ^ 8 from rfl, ← Int.pow_mul]
    rfl
  rw [e]
  rfl

/-- The number of a row of bytes, the highest first. -/
def beVal (l : List UInt8) : Nat := l.foldl (fun n b => n * 256 + b.toNat) 0
theorem beVal_snoc (l : List UInt8) (k : Nat) (h : k < l.length) : ((beVal (l.take (k + 1)) : Nat) : Int) = (beVal (l.take k) : Int) * 256 + at8 l k := by
  rw [List.take_succ_eq_append_getElem h]
  unfold beVal
  rw [List.foldl_append]
  simp [at8, List.getD, h]
theorem beVal_lt (l : List UInt8) : beVal l < 256 ^ l.length := by
  have g : ∀ (l : List UInt8) (a b : Nat), a < b → l.foldl (fun n b => n * 256 + b.toNat) a < b * 256 ^ l.length := by
    intro l
    induction l with
    | nil => intro a b h; simpa using h
    | cons x l ih =>
      intro a b h
      simp only [List.foldl_cons, List.length_cons]
      have hx := x.toNat_lt
      have := ih (a * 256 + x.toNat) (b * 256) (by omega)
      rwa [Nat.mul_assoc, ← Nat.pow_succ'] at this
  have := g l 0 1 (by omega)
  simpa [beVal] using this
theorem beVal_take_lt (l : List UInt8) (k : Nat) (hk : k ≤ 7) : (beVal (l.take k) : Int) ≤ 72057594037927935 := by
  have h1 := beVal_lt (l.take k)
  have h2 : 256 ^ (l.take k).length ≤ 256 ^ 7 := Nat.pow_le_pow_right (by omega) (by rw [List.length_take]; omega)
  omega

/-! ### What a patch's bytes are -/
structure Hk where
  fr : Nat
  tt : Nat
  b : List UInt8

/-- A patch's hunks; 'none': it ends within one. -/
def parse : Nat → List UInt8 → List (Option Hk)
  | 0, _ => []
  | f + 1, l => if l.length = 0 then [] else if l.length < 12 then [none] else if l.length - 12 < beVal ((l.take 12).drop 8) then [none] else
      some ⟨beVal ((l.take 4).drop 0), beVal ((l.take 8).drop 4), (l.take (12 + beVal ((l.take 12).drop 8))).drop 12⟩ :: parse f (l.drop (12 + beVal ((l.take 12).drop 8)))

theorem parse_fuel : ∀ (f g : Nat) (l : List UInt8), l.length ≤ f → l.length ≤ g → parse f l = parse g l := by
  intro f
  induction f with
  | zero =>
    intro g l hf hg
    have : l = [] := List.eq_nil_of_length_eq_zero (by omega)
    subst this
    cases g <;> simp [parse]
  | succ f ih =>
    intro g l hf hg
    cases g with
    | zero =>
      have : l = [] := List.eq_nil_of_length_eq_zero (by omega)
      subst this
      simp [parse]
    | succ g =>
      simp only [parse]
      split
      · rfl
      · split
        · rfl
        · split
          · rfl
          · rw [ih g _ (by rw [List.length_drop]; omega) (by rw [List.length_drop]; omega)]

theorem parse_more (rest : List UInt8) (h12 : ¬ rest.length < 12) (x3 : Nat) (hx : x3 = beVal ((rest.take 12).drop 8)) (h : ¬ rest.length - 12 < x3) :
    parse rest.length rest = some ⟨beVal ((rest.take 4).drop 0), beVal ((rest.take 8).drop 4), (rest.take (12 + x3)).drop 12⟩ :: parse (rest.drop (12 + x3)).length (rest.drop (12 + x3)) := by
  obtain ⟨k, hk⟩ : ∃ k, rest.length = k + 1 := ⟨rest.length - 1, by omega⟩
  have e : parse (k + 1) rest = some ⟨beVal ((rest.take 4).drop 0), beVal ((rest.take 8).drop 4), (rest.take (12 + x3)).drop 12⟩ :: parse k (rest.drop (12 + x3)) := by
    simp only [parse]
    rw [if_neg (by omega), if_neg h12, if_neg (by rw [← hx]; exact h), ← hx]
  rw [hk, e, parse_fuel k _ _ (by rw [List.length_drop]; omega) (Nat.le_refl _)]

/-- What becomes of a base by hunks, from a place on; or the error. -/
def applyGo (base : List UInt8) : List (Option Hk) → Nat → List UInt8 → Except Nat (List UInt8)
  | [], k, out => .ok (out ++ base.drop k)
  | none :: _, _, _ => .error 3
  | some h :: r, k, out => if h.tt < h.fr ∨ base.length < h.tt ∨ h.fr < k then .error 4 else applyGo base r h.tt (out ++ (base.take h.fr).drop k ++ h.b)

/-- Apply's answer. -/
def applyRes (base p : List UInt8) (most : Int) : List UInt8 × Nat :=
  match applyGo base (parse p.length p) 0 [] with
  | .error e => ([], e)
  | .ok x => if most < (x.length : Int) then ([], 2) else (x, 0)

def sumB : List (Option Hk) → Nat
  | [] => 0
  | none :: r => sumB r
  | some h :: r => h.b.length + sumB r
theorem sumB_append (a b : List (Option Hk)) : sumB (a ++ b) = sumB a + sumB b := by
  induction a with
  | nil => simp [sumB]
  | cons x a ih => cases x <;> simp [sumB, ih] <;> omega
theorem sumB_parse : ∀ (f : Nat) (l : List UInt8), sumB (parse f l) ≤ l.length := by
  intro f
  induction f with
  | zero => intro l; simp [parse, sumB]
  | succ f ih =>
    intro l
    simp only [parse]
    split
    · simp [sumB]
    · split
      · simp [sumB]
      · split
        · simp [sumB]
        · have := ih (l.drop (12 + beVal ((l.take 12).drop 8)))
          simp only [sumB, List.length_drop, List.length_take] at this ⊢
          omega
theorem sumB_pre {a : List (Option Hk)} {l : List UInt8} (h : a <+: parse l.length l) : sumB a ≤ l.length := by
  obtain ⟨r, hr⟩ := h
  have h1 := sumB_parse l.length l
  rw [← hr, sumB_append] at h1
  omega


/-! ### Hunks in memory -/
structure HRec where
  f : Int
  t : Int
  A : Option Addr
  c : Nat
  b : List UInt8
def HRec.cells (h : HRec) : List Value := [.int .i64 h.f, .int .i64 h.t, .slice h.A h.b.length h.c]
def hcells (hs : List HRec) : List Value := hs.flatMap HRec.cells
theorem hcells_len (hs : List HRec) : (hcells hs).length = hs.length * 3 := by
  induction hs with
  | nil => rfl
  | cons h hs ih => simp only [hcells, List.flatMap_cons, List.length_append] at ih ⊢; rw [ih]; simp [HRec.cells]; omega
theorem hcells_get (hs : List HRec) (i k : Nat) (hi : i < hs.length) (hk : k < 3) : (hcells hs)[i * 3 + k]? = hs[i].cells[k]? := by
  induction hs generalizing i with
  | nil => simp at hi
  | cons h hs ih =>
    have hl : h.cells.length = 3 := rfl
    show (h.cells ++ hcells hs)[i * 3 + k]? = _
    cases i with
    | zero => rw [List.getElem?_append_left (by omega)]; simp
    | succ i =>
      rw [List.getElem?_append_right (by omega), hl, show (i + 1) * 3 + k - 3 = i * 3 + k by omega, ih i (by simpa using hi)]
      rfl
theorem hcells_one (hs : List HRec) : ∀ u ∈ hcells hs, u.oneCell' = true := by
  intro u hu
  obtain ⟨h, _, hu⟩ := List.mem_flatMap.1 hu
  simp [HRec.cells] at hu
  rcases hu with rfl | rfl | rfl <;> rfl
/-- Hunks that lie at an address. -/
def RdH (w : World) (A : Option Addr) (hs : List HRec) : Prop := RdR w A (hcells hs) ∧ ∀ h ∈ hs, Rd w h.A h.b
theorem RdH.at_ {w : World} {A : Option Addr} {hs : List HRec} (h : RdH w A hs) (hl : 0 < hs.length) : ∃ b o, A = some ⟨b, o, none⟩ ∧ b < w.heap.size ∧
    ∀ i (hi : i < hs.length), w.cell? ⟨b, o + i * 3, none⟩ = some (.int .i64 hs[i].f) ∧ w.cell? ⟨b, o + i * 3 + 1, none⟩ = some (.int .i64 hs[i].t) ∧ w.cell? ⟨b, o + i * 3 + 2, none⟩ = some (.slice hs[i].A hs[i].b.length hs[i].c) := by
  obtain ⟨b, o, e, hb, hc⟩ := h.1.at_ (by rw [hcells_len]; omega)
  refine ⟨b, o, e, hb, fun i hi => ⟨?_, ?_, ?_⟩⟩
  · exact hc (i * 3) _ (by have := hcells_get hs i 0 hi (by omega); simpa [HRec.cells] using this)
  · rw [Nat.add_assoc]; exact hc (i * 3 + 1) _ (by rw [hcells_get hs i 1 hi (by omega)]; rfl)
  · rw [Nat.add_assoc]; exact hc (i * 3 + 2) _ (by rw [hcells_get hs i 2 hi (by omega)]; rfl)
theorem RdH.ext {w w' : World} {A : Option Addr} {hs : List HRec} (h : RdH w A hs) (hb : Below w.heap.size w w') : RdH w' A hs := ⟨h.1.ext hb, fun x hx => (h.2 x hx).ext hb⟩

def u64 (x : Int) : Nat := (x % 18446744073709551616).toNat
def HRec.print (h : HRec) : List UInt8 := be 4 (u64 h.f) ++ be 4 (u64 h.t) ++ be 4 h.b.length ++ h.b
def printB (hs : List HRec) : List UInt8 := hs.flatMap HRec.print
def bodyLen (hs : List HRec) : Nat := (hs.map fun h => h.b.length).sum
theorem printB_len (hs : List HRec) : (printB hs).length = 12 * hs.length + bodyLen hs := by
  induction hs with
  | nil => rfl
  | cons h hs ih => simp only [printB, List.flatMap_cons, List.length_append, bodyLen, List.map_cons, List.sum_cons, List.length_cons] at ih ⊢; rw [ih]; simp [HRec.print, be_len]; omega
theorem printB_take (hs : List HRec) (i : Nat) (hi : i < hs.length) : printB (hs.take (i + 1)) = printB (hs.take i) ++ be 4 (u64 hs[i].f) ++ be 4 (u64 hs[i].t) ++ be 4 hs[i].b.length ++ hs[i].b := by
  rw [List.take_succ_eq_append_getElem hi]
  simp only [printB, List.flatMap_append, List.flatMap_cons, List.flatMap_nil, List.append_nil, HRec.print, List.append_assoc]
theorem bodyLen_take (hs : List HRec) (i : Nat) : bodyLen (hs.take i) ≤ bodyLen hs := by
  induction hs generalizing i with
  | nil => simp [bodyLen]
  | cons h hs ih =>
    cases i with
    | zero => simp [bodyLen]
    | succ i => have := ih i; simp [bodyLen] at this ⊢; omega
theorem bodyLen_get (hs : List HRec) (i : Nat) (hi : i < hs.length) : hs[i].b.length ≤ bodyLen hs := by
  induction hs generalizing i with
  | nil => simp at hi
  | cons h hs ih =>
    cases i with
    | zero => simp [bodyLen]
    | succ i => have := ih i (by simpa using hi); simp [bodyLen] at this ⊢; omega
/-- What a round is handed: a hunk, or the error. -/
structure HkV where
  err : Bool
  fr : Nat
  tt : Nat
  A : Option Addr
  c : Nat
  b : List UInt8

def HkV.el (x : HkV) : Option Hk := if x.err then none else some ⟨x.fr, x.tt, x.b⟩

def HkV.toRec (x : HkV) : HRec := ⟨x.fr, x.tt, x.A, x.c, x.b⟩

/-- Hunks that follow one another from k on. -/
def Valid (n : Nat) : Nat → List HkV → Prop
  | k, [] => k ≤ n
  | k, h :: r => k ≤ h.fr ∧ h.fr ≤ h.tt ∧ h.tt ≤ n ∧ Valid n h.tt r
/-- The place where the last of them ends. -/
def endK : Nat → List HkV → Nat
  | k, [] => k
  | _, h :: r => endK h.tt r
/-- What becomes of the base from k on, as far as they reach. -/
def fwd (base : List UInt8) : Nat → List HkV → List UInt8
  | _, [] => []
  | k, h :: r => (base.take h.fr).drop k ++ h.b ++ fwd base h.tt r
theorem Valid.le {n : Nat} : ∀ {hs : List HkV} {k : Nat}, Valid n k hs → k ≤ n
  | [], _, h => h
  | _ :: _, _, h => by have := h.1; have := h.2.1; have := h.2.2.1; omega
theorem Valid.end_ {n : Nat} {hs : List HkV} : ∀ {k : Nat}, Valid n k hs → endK k hs ≤ n := by
  induction hs with
  | nil => intro k h; exact h
  | cons x r ih => intro k h; exact ih h.2.2.2
theorem Valid.snoc {n : Nat} (x : HkV) : ∀ {hs : List HkV} {k : Nat}, Valid n k hs → endK k hs ≤ x.fr → x.fr ≤ x.tt → x.tt ≤ n → Valid n k (hs ++ [x])
  | [], _, _, h1, h2, h3 => ⟨h1, h2, h3, h3⟩
  | _ :: _, _, h, h1, h2, h3 => ⟨h.1, h.2.1, h.2.2.1, Valid.snoc x h.2.2.2 h1 h2 h3⟩
theorem endK_snoc (x : HkV) : ∀ (hs : List HkV) (k : Nat), endK k (hs ++ [x]) = x.tt
  | [], _ => rfl
  | _ :: r, _ => endK_snoc x r _
theorem fwd_snoc (base : List UInt8) (x : HkV) : ∀ (hs : List HkV) (k : Nat), fwd base k (hs ++ [x]) = fwd base k hs ++ (base.take x.fr).drop (endK k hs) ++ x.b
  | [], k => by simp [fwd, endK]
  | h :: r, k => by simp only [List.cons_append, fwd, endK]; rw [fwd_snoc base x r h.tt]; simp [List.append_assoc]
/-- From behind: one hunk at a time. -/
def backStep (h : HkV) (out : List UInt8) : List UInt8 := out.take h.fr ++ h.b ++ out.drop h.tt
def back (base : List UInt8) (hs : List HkV) : List UInt8 := hs.foldr backStep base
theorem back_eq (base : List UInt8) : ∀ (hs : List HkV) (k : Nat), Valid base.length k hs → back base hs = base.take k ++ (fwd base k hs ++ base.drop (endK k hs))
  | [], k, _ => by simp [back, fwd, endK]
  | h :: r, k, hv => by
    obtain ⟨h1, h2, h3, h4⟩ := hv
    have ih := back_eq base r h.tt h4
    show backStep h (back base r) = _
    rw [ih]
    unfold backStep
    have e1 : (base.take h.tt ++ (fwd base h.tt r ++ base.drop (endK h.tt r))).take h.fr = base.take h.fr := by
      rw [List.take_append_of_le_length (by rw [List.length_take]; omega), List.take_take, Nat.min_eq_left h2]
    have e2 : (base.take h.tt ++ (fwd base h.tt r ++ base.drop (endK h.tt r))).drop h.tt = fwd base h.tt r ++ base.drop (endK h.tt r) := by
      rw [List.drop_append_of_le_length (by rw [List.length_take]; omega), List.drop_eq_nil_of_le (by rw [List.length_take]; omega), List.nil_append]
    rw [e1, e2]
    have e3 : base.take h.fr = base.take k ++ (base.take h.fr).drop k := by
      conv => lhs; rw [← List.take_append_drop k (base.take h.fr)]
      rw [List.take_take, Nat.min_eq_left h1]
    conv => lhs; rw [e3]
    simp [fwd, endK, List.append_assoc]
theorem back_len (base : List UInt8) (hs : List HkV) (k : Nat) (hv : Valid base.length k hs) : k ≤ (back base hs).length := by
  rw [back_eq base hs k hv, List.length_append, List.length_take]
  have := hv.le
  omega
theorem back_drop (base : List UInt8) (hs : List HkV) (i : Nat) (hi : i < hs.length) : back base (hs.drop i) = backStep hs[i] (back base (hs.drop (i + 1))) := by
  rw [List.drop_eq_getElem_cons hi]; rfl
theorem Valid.at_ {n : Nat} : ∀ {hs : List HkV} {k : Nat}, Valid n k hs → ∀ i (hi : i < hs.length), hs[i].fr ≤ hs[i].tt ∧ hs[i].tt ≤ n ∧ Valid n hs[i].tt (hs.drop (i + 1))
  | [], _, _, _, hi => absurd hi (by simp)
  | h :: r, _, hv, 0, _ => ⟨hv.2.1, hv.2.2.1, hv.2.2.2⟩
  | h :: r, _, hv, i + 1, hi => Valid.at_ hv.2.2.2 i (by simpa using hi)
def blen (hs : List HkV) : Nat := (hs.map fun h => h.b.length).sum
theorem blen_snoc (hs : List HkV) (x : HkV) : blen (hs ++ [x]) = blen hs + x.b.length := by simp [blen]
theorem Valid.all {n : Nat} {hs : List HkV} : ∀ {k : Nat}, Valid n k hs → ∀ h ∈ hs, h.fr ≤ h.tt := by
  induction hs with
  | nil => intro k _ h hh; cases hh
  | cons x r ih =>
    intro k hv h hh
    rcases List.mem_cons.1 hh with rfl | hh
    · exact hv.2.1
    · exact ih hv.2.2.2 h hh
theorem back_len_le (base : List UInt8) (hs : List HkV) (i : Nat) (hv : ∀ h ∈ hs, h.fr ≤ h.tt) : (back base (hs.drop i)).length ≤ base.length + blen hs := by
  have g : ∀ l : List HkV, (∀ h ∈ l, h.fr ≤ h.tt) → (back base l).length ≤ base.length + blen l := by
    intro l
    induction l with
    | nil => intro _; simp [back, blen]
    | cons h r ih =>
      intro hl
      have e : back base (h :: r) = backStep h (back base r) := rfl
      have h1 := hl h (by simp)
      have h2 := ih (fun x hx => hl x (by simp [hx]))
      rw [e]
      simp only [backStep, List.length_append, List.length_take, List.length_drop, blen, List.map_cons, List.sum_cons] at h2 ⊢
      omega
  have g2 : ∀ (l : List HkV) (i : Nat), blen (l.drop i) ≤ blen l := by
    intro l
    induction l with
    | nil => intro i; simp [blen]
    | cons h r ih =>
      intro i
      cases i with
      | zero => simp
      | succ i => have := ih i; simp [blen] at this ⊢; omega
  exact Nat.le_trans (g _ (fun h hh => hv h (List.mem_of_mem_drop hh))) (Nat.add_le_add_left (g2 hs i) _)
theorem blen_get (hs : List HkV) (i : Nat) (hi : i < hs.length) : hs[i].b.length ≤ blen hs := by
  induction hs generalizing i with
  | nil => simp at hi
  | cons h hs ih =>
    cases i with
    | zero => simp [blen]
    | succ i => have := ih i (by simpa using hi); simp [blen] at this ⊢; omega
theorem cut_drop (p : List UInt8) (k i j : Nat) : ((p.drop k).take j).drop i = (p.take (k + j)).drop (k + i) := by
  rw [List.take_drop, List.drop_drop]
/-- Four bytes' number at a place. -/
def num4 (p : List UInt8) (k : Nat) : Nat := beVal ((p.take (k + 4)).drop k)
theorem num4_lt (p : List UInt8) (k : Nat) (h : k + 4 ≤ p.length) : num4 p k < 4294967296 := by
  have := beVal_lt ((p.take (k + 4)).drop k)
  rw [part_len _ _ _ h, show k + 4 - k = 4 by omega] at this
  unfold num4
  omega
/-- One step of 'parse' at a place. -/
theorem parse_at (p : List UInt8) (k : Nat) (h12 : 12 ≤ p.length - k) :
    parse (p.drop k).length (p.drop k) = if p.length - k - 12 < num4 p (k + 8) then [none] else
      some ⟨num4 p k, num4 p (k + 4), (p.take (k + 12 + num4 p (k + 8))).drop (k + 12)⟩ :: parse (p.drop (k + 12 + num4 p (k + 8))).length (p.drop (k + 12 + num4 p (k + 8))) := by
  have hl : (p.drop k).length = p.length - k := List.length_drop
  have e8 : beVal (((p.drop k).take 12).drop 8) = num4 p (k + 8) := by rw [cut_drop]; rfl
  by_cases h : p.length - k - 12 < num4 p (k + 8)
  · rw [if_pos h]
    obtain ⟨m, hm⟩ : ∃ m, (p.drop k).length = m + 1 := ⟨p.length - k - 1, by omega⟩
    rw [hm]; simp only [parse]; rw [if_neg (by omega), if_neg (by omega), if_pos (by rw [hl, e8]; exact h)]
  · rw [if_neg h, parse_more (p.drop k) (by omega) (num4 p (k + 8)) e8.symm (by rw [hl]; exact h)]
    rw [cut_drop, cut_drop, cut_drop, List.drop_drop]
    simp only [num4, Nat.add_assoc, Nat.add_zero]
end Go.Proofs.YtjdlngbobnknmaaDoor
