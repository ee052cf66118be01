import Derived.Test.YtakojeefilpibaaDoorVMem
import Derived.Lib.Bytealg
import Derived.KernelRfl
import Derived.Test.YtakojeefilpibaaDoorVAMS
import Derived.Lib.Strings
import Derived.Shelf.Strings.Builder1
import Derived.Shelf.Small.Utf8
import Derived.Shelf.Small.Strs
import Derived.Shelf.Small.Wraps
import Derived.Shelf.Strings.Search1
import Derived.Shelf.Strings.Cut
import Derived.Shelf.LaysM
import Derived.Shelf.Strings.Prefix
import Derived.Shelf.Strings.Split
import Derived.Shelf.Strings.Runes
import Derived.Shelf.Strings.IndexAny
import Derived.Shelf.Strings.IndexAnyAll
import Derived.Test.YtakojeefilpibaaDoorProg
namespace Go.Proofs.YtakojeefilpibaaDoor
set_option linter.all false
open Go.RowKit
def be : Nat → Nat → List UInt8
  | 0, _ => []
  | k + 1, n => byteOf ((n / 256 ^ k % 256 : Nat) : Int) :: be k n
structure Hk where
  fr : Nat
  tt : Nat
  b : List UInt8
structure HRec where
  f : Int
  t : Int
  A : Option Addr
  c : Nat
  b : List UInt8
def HRec.cells (h : HRec) : List Value := [.int .i64 h.f, .int .i64 h.t, .slice h.A h.b.length h.c]
def hcells (hs : List HRec) : List Value := hs.flatMap HRec.cells
theorem hcells_len (hs : List HRec) : (hcells hs).length = hs.length * 3 := by
  induction hs with
  | nil => rfl
  | cons h hs ih => simp only [hcells, List.flatMap_cons, List.length_append] at ih ⊢; rw [ih]; simp [HRec.cells]; omega
theorem hcells_get (hs : List HRec) (i k : Nat) (hi : i < hs.length) (hk : k < 3) : (hcells hs)[i * 3 + k]? = hs[i].cells[k]? := by
  induction hs generalizing i with
  | nil => simp at hi
  | cons h hs ih =>
    have hl : h.cells.length = 3 := rfl
    show (h.cells ++ hcells hs)[i * 3 + k]? = _
    cases i with
    | zero => rw [List.getElem?_append_left (by omega)]; simp
    | succ i =>
      rw [List.getElem?_append_right (by omega), hl, show (i + 1) * 3 + k - 3 = i * 3 + k by omega, ih i (by simpa using hi)]
      rfl
def RdH (w : World) (A : Option Addr) (hs : List HRec) : Prop := RdR w A (hcells hs) ∧ ∀ h ∈ hs, Rd w h.A h.b
theorem RdH.at_ {w : World} {A : Option Addr} {hs : List HRec} (h : RdH w A hs) (hl : 0 < hs.length) : ∃ b o, A = some ⟨b, o, none⟩ ∧ b < w.heap.size ∧
    ∀ i (hi : i < hs.length), w.cell? ⟨b, o + i * 3, none⟩ = some (.int .i64 hs[i].f) ∧ w.cell? ⟨b, o + i * 3 + 1, none⟩ = some (.int .i64 hs[i].t) ∧ w.cell? ⟨b, o + i * 3 + 2, none⟩ = some (.slice hs[i].A hs[i].b.length hs[i].c) := by
  obtain ⟨b, o, e, hb, hc⟩ := h.1.at_ (by rw [hcells_len]; omega)
  refine ⟨b, o, e, hb, fun i hi => ⟨?_, ?_, ?_⟩⟩
  · exact hc (i * 3) _ (by have := hcells_get hs i 0 hi (by omega); simpa [HRec.cells] using this)
  · rw [Nat.add_assoc]; exact hc (i * 3 + 1) _ (by rw [hcells_get hs i 1 hi (by omega)]; rfl)
  · rw [Nat.add_assoc]; exact hc (i * 3 + 2) _ (by rw [hcells_get hs i 2 hi (by omega)]; rfl)
theorem RdH.ext {w w' : World} {A : Option Addr} {hs : List HRec} (h : RdH w A hs) (hb : Below w.heap.size w w') : RdH w' A hs := ⟨h.1.ext hb, fun x hx => (h.2 x hx).ext hb⟩
def u64 (x : Int) : Nat := (x % 18446744073709551616).toNat
def HRec.print (h : HRec) : List UInt8 := be 4 (u64 h.f) ++ be 4 (u64 h.t) ++ be 4 h.b.length ++ h.b
structure HkV where
  err : Bool
  fr : Nat
  tt : Nat
  A : Option Addr
  c : Nat
  b : List UInt8
def HkV.el (x : HkV) : Option Hk := if x.err then none else some ⟨x.fr, x.tt, x.b⟩
def Valid (n : Nat) : Nat → List HkV → Prop
  | k, [] => k ≤ n
  | k, h :: r => k ≤ h.fr ∧ h.fr ≤ h.tt ∧ h.tt ≤ n ∧ Valid n h.tt r
theorem Valid.at_ {n : Nat} : ∀ {hs : List HkV} {k : Nat}, Valid n k hs → ∀ i (hi : i < hs.length), hs[i].fr ≤ hs[i].tt ∧ hs[i].tt ≤ n ∧ Valid n hs[i].tt (hs.drop (i + 1))
  | [], _, _, _, hi => absurd hi (by simp)
  | h :: r, _, hv, 0, _ => ⟨hv.2.1, hv.2.2.1, hv.2.2.2⟩
  | h :: r, _, hv, i + 1, hi => Valid.at_ hv.2.2.2 i (by simpa using hi)
theorem Valid.all {n : Nat} {hs : List HkV} : ∀ {k : Nat}, Valid n k hs → ∀ h ∈ hs, h.fr ≤ h.tt := by
  induction hs with
  | nil => intro k _ h hh; cases hh
  | cons x r ih =>
    intro k hv h hh
    rcases List.mem_cons.1 hh with rfl | hh
    · exact hv.2.1
    · exact ih hv.2.2.2 h hh
end Go.Proofs.YtakojeefilpibaaDoor
namespace Go.Proofs.YtakojeefilpibaaDoor
set_option linter.all false
open Go.RowKit
def rot : Nat → Nat → Nat
  | x, 0 => x
  | x, n + 1 => 2 * rot x n % 4294967296 + 2 * rot x n / 4294967296
structure ShSt where
  a : Nat
  b : Nat
  c : Nat
  d : Nat
  e : Nat
def ShSt.ok (s : ShSt) : Prop := s.a < 4294967296 ∧ s.b < 4294967296 ∧ s.c < 4294967296 ∧ s.d < 4294967296 ∧ s.e < 4294967296
def nextW (L : List Nat) (i : Nat) : Nat := rot (L.getD (i - 3) 0 ^^^ L.getD (i - 8) 0 ^^^ L.getD (i - 14) 0 ^^^ L.getD (i - 16) 0) 1
def ext : Nat → List Nat → List Nat
  | 0, L => L
  | n + 1, L => ext n (L ++ [nextW L L.length])
def ShSt.bytes (s : ShSt) : List UInt8 := be 4 s.a ++ be 4 s.b ++ be 4 s.c ++ be 4 s.d ++ be 4 s.e
def allLt (L : List Nat) : Prop := ∀ x ∈ L, x < 4294967296
theorem allLt.getD {L : List Nat} (h : allLt L) (i : Nat) : L.getD i 0 < 4294967296 := by
  rw [List.getD_eq_getElem?_getD]
  rcases Nat.lt_or_ge i L.length with h1 | h1
  · rw [List.getElem?_eq_getElem h1]; exact h _ (List.getElem_mem h1)
  · rw [List.getElem?_eq_none h1]; simp
attribute [irreducible] ext nextW rot
end Go.Proofs.YtakojeefilpibaaDoor
namespace Go.Proofs.YtakojeefilpibaaDoor
set_option linter.all false
def digs : List UInt8 := [48, 49, 50, 51, 52, 53, 54, 55, 56, 57, 97, 98, 99, 100, 101, 102]
end Go.Proofs.YtakojeefilpibaaDoor
namespace Go.Proofs.YtakojeefilpibaaDoor
set_option linter.all false
def hxd (n : Nat) : UInt8 := digs.getD n 0
def toldL (c : UInt8) : List UInt8 := [126, hxd (c.toNat / 16), hxd (c.toNat % 16)]
def isUp (c : UInt8) : Bool := decide (65 ≤ c.toNat) && decide (c.toNat ≤ 90)
def spL : List UInt8 := [92, 58, 42, 63, 34, 60, 62, 124]
def isSp (c : UInt8) : Bool := decide (c.toNat < 32) || decide (125 < c.toNat) || spL.contains c
def encC (c : UInt8) : List UInt8 := if isUp c = true then [95, UInt8.ofNat (c.toNat + 32)] else if c = 95 then [95, 95] else if isSp c = true then toldL c else [c]
def encP (p : List UInt8) : List UInt8 := p.flatMap encC
def frontP : List UInt8 → List UInt8
  | [] => []
  | c :: r => if c = 46 then [] else c :: frontP r
def keptW : List (List UInt8) := [[97, 117, 120], [99, 111, 110], [112, 114, 110], [110, 117, 108]]
def keptL (s : List UInt8) : Bool := (decide (s.length = 4) && (decide (s.take 3 = [99, 111, 109]) || decide (s.take 3 = [108, 112, 116])) && decide (49 ≤ (s.getD 3 0).toNat) && decide ((s.getD 3 0).toNat ≤ 57)) || keptW.contains s
def dotB (c : UInt8) : Bool := decide (c = 46) || decide (c = 32)
def st1 (s : List UInt8) : List UInt8 := match s with
  | [] => []
  | c :: r => if dotB c = true then toldL c ++ r else c :: r
def st2 (s : List UInt8) : List UInt8 := if dotB (s.getD (s.length - 1) 0) = true then s.take (s.length - 1) ++ toldL (s.getD (s.length - 1) 0) else s
def st3 (k : Bool) (s : List UInt8) : List UInt8 := if k = true then s.take 2 ++ toldL (s.getD 2 0) ++ s.drop 3 else s
def partL (p : List UInt8) : List UInt8 := st3 (keptL (frontP (encP p))) (st2 (st1 (encP p)))
def hvd (c : UInt8) : Nat := (Go.Lib.indexByte digs c).toNat
def backL : List UInt8 → List UInt8
  | [] => []
  | c :: r =>
    if c = 95 then match r with
      | [] => [95]
      | d :: r' => if d = 95 then 95 :: backL r' else if 97 ≤ d.toNat ∧ d.toNat ≤ 122 then UInt8.ofNat (d.toNat - 32) :: backL r' else 95 :: backL (d :: r')
    else if c = 126 then match r with
      | h :: l :: r' => UInt8.ofNat (16 * hvd h + hvd l) :: backL r'
      | [h] => 126 :: backL [h]
      | [] => [126]
    else c :: backL r
def encT (t : UInt8 × Bool) : List UInt8 := if t.2 = true then toldL t.1 else encC t.1
def encTs (ts : List (UInt8 × Bool)) : List UInt8 := ts.flatMap encT
theorem encTs_plain (p : List UInt8) : encTs (p.map (·, false)) = encP p := by
  induction p with
  | nil => rfl
  | cons c p ih =>
    have : encTs ((c :: p).map (·, false)) = encC c ++ encTs (p.map (·, false)) := rfl
    rw [this, ih]; rfl
theorem fst_false (p : List UInt8) : (p.map (·, false)).map Prod.fst = p := by
  induction p with
  | nil => rfl
  | cons c p ih => rw [List.map_cons, List.map_cons, ih]
theorem hvd_hxd : ∀ n, n < 16 → hvd (hxd n) = n := by decide
theorem hxd_ok : ∀ n, n < 16 → (48 ≤ (hxd n).toNat ∧ (hxd n).toNat ≤ 57) ∨ (97 ≤ (hxd n).toNat ∧ (hxd n).toNat ≤ 102) := by decide
theorem back_told (c : UInt8) (r : List UInt8) : backL (toldL c ++ r) = c :: backL r := by
  have h1 : c.toNat < 256 := c.toNat_lt
  show backL (126 :: hxd (c.toNat / 16) :: hxd (c.toNat % 16) :: r) = _
  rw [backL.eq_def]
  simp only [if_neg (by decide : ¬ (126 : UInt8) = 95), if_true]
  rw [hvd_hxd _ (by omega), hvd_hxd _ (by omega)]
  congr 1
  apply UInt8.toNat_inj.1
  rw [UInt8.toNat_ofNat']
  omega
theorem encC_cases (c : UInt8) : (isUp c = true ∧ encC c = [95, UInt8.ofNat (c.toNat + 32)]) ∨ (c = 95 ∧ encC c = [95, 95]) ∨ (isUp c = false ∧ c ≠ 95 ∧ isSp c = true ∧ encC c = toldL c) ∨ (isUp c = false ∧ c ≠ 95 ∧ isSp c = false ∧ encC c = [c]) := by
  unfold encC
  cases h1 : isUp c with
  | true => exact .inl ⟨rfl, rfl⟩
  | false =>
    rw [if_neg Bool.false_ne_true]
    by_cases h2 : c = 95
    · exact .inr (.inl ⟨h2, by rw [if_pos h2]⟩)
    · rw [if_neg h2]
      cases h3 : isSp c with
      | true => exact .inr (.inr (.inl ⟨rfl, h2, rfl, rfl⟩))
      | false => exact .inr (.inr (.inr ⟨rfl, h2, rfl, by rw [if_neg Bool.false_ne_true]⟩))
theorem up_le {c : UInt8} (h : isUp c = true) : 65 ≤ c.toNat ∧ c.toNat ≤ 90 := by simpa [isUp] using h
theorem sp_not {c : UInt8} (h : isSp c = false) : 32 ≤ c.toNat ∧ c.toNat ≤ 125 ∧ c ∉ spL := by
  simp only [isSp, Bool.or_eq_false_iff, decide_eq_false_iff_not] at h
  refine ⟨by omega, by omega, fun hm => ?_⟩
  have := List.contains_iff_mem.2 hm
  rw [h.2] at this; cases this
theorem back_encC (c : UInt8) (r : List UInt8) : backL (encC c ++ r) = c :: backL r := by
  rcases encC_cases c with ⟨h, e⟩ | ⟨h, e⟩ | ⟨-, -, -, e⟩ | ⟨-, h1, h2, e⟩
  · have h2 := up_le h
    have hn : (UInt8.ofNat (c.toNat + 32)).toNat = c.toNat + 32 := by rw [UInt8.toNat_ofNat']; omega
    have hne : UInt8.ofNat (c.toNat + 32) ≠ 95 := fun h => by have := congrArg UInt8.toNat h; rw [hn] at this; simp at this; omega
    rw [e]
    show backL (95 :: UInt8.ofNat (c.toNat + 32) :: r) = _
    rw [backL.eq_def]
    simp only [if_true]
    rw [if_neg hne, if_pos (by rw [hn]; omega), hn]
    congr 1
    apply UInt8.toNat_inj.1
    rw [UInt8.toNat_ofNat']
    omega
  · subst h; rw [e]
    show backL (95 :: 95 :: r) = _
    rw [backL.eq_def]; simp only [if_true]
  · rw [e]; exact back_told c r
  · have h3 := sp_not h2
    have h126 : c ≠ 126 := fun h => by subst h; simp at h3
    rw [e]
    show backL (c :: r) = _
    rw [backL.eq_def]
    simp only [if_neg h1, if_neg h126]
theorem back_toks : ∀ ts : List (UInt8 × Bool), backL (encTs ts) = ts.map Prod.fst
  | [] => by simp [encTs, backL]
  | (c, k) :: ts => by
    have e : encTs ((c, k) :: ts) = encT (c, k) ++ encTs ts := rfl
    rw [e, List.map_cons, ← back_toks ts]
    cases k with
    | true => exact back_told c _
    | false => exact back_encC c _
theorem not_dot {c : UInt8} (h : 33 ≤ c.toNat) (h2 : c ≠ 46) : dotB c = false := by
  have : c ≠ 32 := fun h => by subst h; simp at *
  simp [dotB, h2, this]
theorem encC_head {c : UInt8} {x : UInt8} {r : List UInt8} (h : encC c = x :: r) (hx : x ≠ 95) (hx2 : x ≠ 126) : c = x ∧ r = [] := by
  rcases encC_cases c with ⟨-, e⟩ | ⟨-, e⟩ | ⟨-, -, -, e⟩ | ⟨-, -, -, e⟩
  · rw [h] at e; injection e with e1 e2; exact absurd e1 hx
  · rw [h] at e; injection e with e1 e2; exact absurd e1 hx
  · rw [h] at e; unfold toldL at e; injection e with e1 e2; exact absurd e1 hx2
  · rw [h] at e; injection e with e1 e2; exact ⟨e1.symm, e2⟩
theorem encC_ne (c : UInt8) : encC c ≠ [] := by
  rcases encC_cases c with ⟨-, e⟩ | ⟨-, e⟩ | ⟨-, -, -, e⟩ | ⟨-, -, -, e⟩ <;> rw [e] <;> simp [toldL]
theorem encT_ne (t : UInt8 × Bool) : encT t ≠ [] := by
  obtain ⟨c, k⟩ := t
  cases k
  · exact encC_ne c
  · simp [encT, toldL]
theorem dot_ne {x : UInt8} (h : dotB x = true) : x ≠ 95 ∧ x ≠ 126 := by
  simp only [dotB, Bool.or_eq_true, decide_eq_true_eq] at h
  rcases h with rfl | rfl <;> decide
theorem st1_toks (p : List UInt8) : ∃ ts : List (UInt8 × Bool), st1 (encP p) = encTs ts ∧ ts.map Prod.fst = p := by
  cases p with
  | nil => exact ⟨[], rfl, rfl⟩
  | cons c p =>
    have e : encP (c :: p) = encC c ++ encP p := rfl
    cases h : encC c with
    | nil => exact absurd h (encC_ne c)
    | cons x r =>
      rw [e, h]
      cases hd : dotB x with
      | true =>
        obtain ⟨h1, h2⟩ := dot_ne hd
        obtain ⟨rfl, rfl⟩ := encC_head h h1 h2
        refine ⟨(c, true) :: p.map (·, false), ?_, by rw [List.map_cons, fst_false]⟩
        have : encTs ((c, true) :: p.map (·, false)) = toldL c ++ encTs (p.map (·, false)) := rfl
        rw [this, encTs_plain]
        show (if dotB c = true then toldL c ++ ([] ++ encP p) else _) = _
        rw [if_pos hd]; rfl
      | false =>
        refine ⟨(c, false) :: p.map (·, false), ?_, by rw [List.map_cons, fst_false]⟩
        have : encTs ((c, false) :: p.map (·, false)) = encC c ++ encTs (p.map (·, false)) := rfl
        rw [this, encTs_plain, h]
        show (if dotB x = true then _ else x :: (r ++ encP p)) = _
        rw [hd, if_neg Bool.false_ne_true]; rfl
theorem st2_app (a : List UInt8) (b : List UInt8) (hb : b ≠ []) : st2 (a ++ b) = a ++ st2 b := by
  have hl : 0 < b.length := List.length_pos_iff.2 hb
  have e1 : (a ++ b).getD ((a ++ b).length - 1) 0 = b.getD (b.length - 1) 0 := by
    rw [List.getD_eq_getElem?_getD, List.getD_eq_getElem?_getD, List.length_append, List.getElem?_append_right (by omega)]
    congr 2; omega
  unfold st2
  rw [e1]
  split
  · rw [List.length_append, ← List.append_assoc]
    congr 1
    rw [List.take_append, List.take_of_length_le (by omega)]
    congr 2; omega
  · rfl
theorem st2_one (t : UInt8 × Bool) : ∃ t' : UInt8 × Bool, st2 (encT t) = encT t' ∧ t'.1 = t.1 := by
  obtain ⟨c, k⟩ := t
  have told : st2 (toldL c) = toldL c := by
    have h := hxd_ok (c.toNat % 16) (by omega)
    have hd : dotB (hxd (c.toNat % 16)) = false := not_dot (by omega) (fun h2 => by rw [h2] at h; simp at h)
    show (if dotB (hxd (c.toNat % 16)) = true then _ else _) = _
    rw [hd, if_neg Bool.false_ne_true]
  cases k with
  | true => exact ⟨(c, true), told, rfl⟩
  | false =>
    show ∃ t', st2 (encC c) = _ ∧ _
    rcases encC_cases c with ⟨h, e⟩ | ⟨h, e⟩ | ⟨-, -, -, e⟩ | ⟨-, -, -, e⟩
    · refine ⟨(c, false), ?_, rfl⟩
      have h2 := up_le h
      have hn : (UInt8.ofNat (c.toNat + 32)).toNat = c.toNat + 32 := by rw [UInt8.toNat_ofNat']; omega
      have hd : dotB (UInt8.ofNat (c.toNat + 32)) = false := not_dot (by omega) (fun h3 => by rw [h3] at hn; simp at hn; omega)
      show st2 (encC c) = encC c
      rw [e]
      show (if dotB (UInt8.ofNat (c.toNat + 32)) = true then _ else _) = _
      rw [hd, if_neg Bool.false_ne_true]
    · exact ⟨(c, false), by show st2 (encC c) = encC c; rw [e]; rfl, rfl⟩
    · exact ⟨(c, false), by show st2 (encC c) = encC c; rw [e]; exact told, rfl⟩
    · cases hd : dotB c with
      | true =>
        refine ⟨(c, true), ?_, rfl⟩
        rw [e]
        show (if dotB c = true then [] ++ toldL c else _) = _
        rw [hd, if_pos rfl]; rfl
      | false =>
        refine ⟨(c, false), ?_, rfl⟩
        show st2 (encC c) = encC c
        rw [e]
        show (if dotB c = true then _ else _) = _
        rw [hd, if_neg Bool.false_ne_true]
theorem st2_toks (ts : List (UInt8 × Bool)) : ∃ ts' : List (UInt8 × Bool), st2 (encTs ts) = encTs ts' ∧ ts'.map Prod.fst = ts.map Prod.fst := by
  rcases List.eq_nil_or_concat ts with rfl | ⟨l, t, rfl⟩
  · exact ⟨[], rfl, rfl⟩
  · obtain ⟨t', h1, h2⟩ := st2_one t
    refine ⟨l ++ [t'], ?_, by simp [h2]⟩
    have e : ∀ t, encTs (l ++ [t]) = encTs l ++ encT t := fun t => by simp [encTs]
    rw [List.concat_eq_append, e, e, st2_app _ _ (encT_ne t), h1]
theorem front_pre : ∀ s : List UInt8, ∃ r, s = frontP s ++ r
  | [] => ⟨[], rfl⟩
  | c :: s => by
    obtain ⟨r, h⟩ := front_pre s
    unfold frontP
    split
    · exact ⟨c :: s, rfl⟩
    · exact ⟨r, by rw [List.cons_append, ← h]⟩
abbrev kl (c : UInt8) : Prop := 97 ≤ c.toNat ∧ c.toNat ≤ 122
theorem kept_three {s : List UInt8} (h : keptL s = true) : ∃ a b c r, s = a :: b :: c :: r ∧ kl a ∧ kl b ∧ kl c := by
  simp only [keptL, keptW, Bool.or_eq_true, Bool.and_eq_true, decide_eq_true_eq, List.contains_iff_mem, List.mem_cons, List.not_mem_nil, or_false] at h
  rcases h with ⟨⟨⟨h, h1⟩, -⟩, -⟩ | h
  · match s, h with
    | [a, b, c, d], _ =>
      rcases h1 with h1 | h1 <;> (simp only [List.take_succ_cons, List.take_zero, List.cons.injEq, and_true] at h1; obtain ⟨rfl, rfl, rfl⟩ := h1; exact ⟨_, _, _, _, rfl, by decide, by decide, by decide⟩)
  · rcases h with rfl | rfl | rfl | rfl <;> exact ⟨_, _, _, _, rfl, by decide, by decide, by decide⟩
theorem enc_letter {x : UInt8} {p r : List UInt8} (h : encP p = x :: r) (hx : kl x) : ∃ p', p = x :: p' ∧ encP p' = r ∧ encC x = [x] := by
  cases p with
  | nil => cases h
  | cons c p =>
    have e : encP (c :: p) = encC c ++ encP p := rfl
    rw [e] at h
    cases hc : encC c with
    | nil => exact absurd hc (encC_ne c)
    | cons y l =>
      rw [hc] at h
      injection h with h1 h2
      subst h1
      obtain ⟨rfl, rfl⟩ := encC_head hc (fun h => by subst h; simp [kl] at hx) (fun h => by subst h; simp [kl] at hx)
      exact ⟨p, rfl, h2, hc⟩
theorem kl_dot {x : UInt8} (h : kl x) : dotB x = false := not_dot (by have := h.1; omega) (fun e => by subst e; simp [kl] at h)
theorem part_toks (p : List UInt8) : ∃ ts : List (UInt8 × Bool), partL p = encTs ts ∧ ts.map Prod.fst = p := by
  cases hk : keptL (frontP (encP p)) with
  | false =>
    obtain ⟨ts, h1, h2⟩ := st1_toks p
    obtain ⟨ts', h3, h4⟩ := st2_toks ts
    refine ⟨ts', ?_, by rw [h4, h2]⟩
    unfold partL st3
    rw [hk, if_neg Bool.false_ne_true, h1, h3]
  | true =>
    obtain ⟨a, b, c, r, h1, ka, kb, kc⟩ := kept_three hk
    obtain ⟨r2, h2⟩ := front_pre (encP p)
    rw [h1] at h2
    obtain ⟨p1, rfl, h3, ea⟩ := enc_letter h2 ka
    obtain ⟨p2, rfl, h4, eb⟩ := enc_letter h3 kb
    obtain ⟨p3, rfl, h5, ec⟩ := enc_letter h4 kc
    have e : encP (a :: b :: c :: p3) = a :: b :: c :: encP p3 := by
      show encC a ++ (encC b ++ (encC c ++ encP p3)) = _
      rw [ea, eb, ec]; rfl
    have e1 : st1 (encP (a :: b :: c :: p3)) = a :: b :: c :: encP p3 := by
      rw [e]
      show (if dotB a = true then _ else _) = _
      rw [kl_dot ka, if_neg Bool.false_ne_true]
    obtain ⟨ts, h6, h7⟩ : ∃ ts : List (UInt8 × Bool), st2 (a :: b :: c :: encP p3) = a :: b :: c :: encTs ts ∧ ts.map Prod.fst = p3 := by
      by_cases hp : encP p3 = []
      · have hp3 : p3 = [] := by
          cases p3 with
          | nil => rfl
          | cons x p =>
            have : encP (x :: p) = encC x ++ encP p := rfl
            rw [this, List.append_eq_nil_iff] at hp
            exact absurd hp.1 (encC_ne x)
        subst hp3
        refine ⟨[], ?_, rfl⟩
        show (if dotB c = true then _ else _) = _
        rw [kl_dot kc, if_neg Bool.false_ne_true]; rfl
      · obtain ⟨ts, h6, h7⟩ := st2_toks (p3.map (·, false))
        refine ⟨ts, ?_, by rw [h7, fst_false]⟩
        rw [encTs_plain] at h6
        rw [← h6]
        exact st2_app [a, b, c] _ hp
    refine ⟨(a, false) :: (b, false) :: (c, true) :: ts, ?_, by simp [h7]⟩
    have hr : encTs ((a, false) :: (b, false) :: (c, true) :: ts) = encC a ++ (encC b ++ (toldL c ++ encTs ts)) := rfl
    rw [hr, ea, eb]
    unfold partL st3
    rw [hk, if_pos rfl, e1, h6]
    rfl
theorem back_part (p : List UInt8) : backL (partL p) = p := by
  obtain ⟨ts, h1, h2⟩ := part_toks p
  rw [h1, back_toks, h2]
end Go.Proofs.YtakojeefilpibaaDoor
namespace Go.Proofs.YtakojeefilpibaaDoor
set_option linter.all false
open Go.Lib (hasSuffix hasPrefix)
def joinL : List (List UInt8) → List UInt8
  | [] => []
  | [x] => x
  | x :: y :: r => x ++ 47 :: joinL (y :: r)
theorem joinL_cons (x : List UInt8) {r : List (List UInt8)} (h : r ≠ []) : joinL (x :: r) = x ++ 47 :: joinL r := by
  cases r with
  | nil => exact absurd rfl h
  | cons y r => rfl
theorem psl_app {c : UInt8} : ∀ {x : List UInt8} (s : List UInt8), c ∉ x → psl c (x ++ c :: s) = x :: psl c s
  | [], s, _ => psl_cons_eq c s
  | b :: x, s, h => by
    have hb : b ≠ c := fun e => h (by rw [e]; exact List.mem_cons_self ..)
    have ih := psl_app (x := x) s (fun hm => h (List.mem_cons_of_mem _ hm))
    obtain ⟨y, t, e1, e2⟩ := psl_cons_ne hb (x ++ c :: s)
    rw [List.cons_append, e2]
    rw [ih] at e1
    injection e1 with e1 e3
    rw [e1, e3]
theorem psl_none {c : UInt8} : ∀ {x : List UInt8}, c ∉ x → psl c x = [x]
  | [], _ => rfl
  | b :: x, h => by
    have hb : b ≠ c := fun e => h (by rw [e]; exact List.mem_cons_self ..)
    have ih := psl_none (x := x) (fun hm => h (List.mem_cons_of_mem _ hm))
    obtain ⟨y, t, e1, e2⟩ := psl_cons_ne hb x
    rw [e2]
    rw [ih] at e1
    injection e1 with e1 e3
    rw [← e1, ← e3]
theorem psl_join : ∀ l : List (List UInt8), l ≠ [] → (∀ x ∈ l, (47 : UInt8) ∉ x) → psl 47 (joinL l) = l
  | [], h, _ => absurd rfl h
  | [x], _, h => psl_none (h x (List.mem_cons_self ..))
  | x :: y :: r, _, h => by
    show psl 47 (x ++ 47 :: joinL (y :: r)) = _
    rw [psl_app _ (h x (List.mem_cons_self ..)), psl_join (y :: r) (by simp) fun z hz => h z (List.mem_cons_of_mem _ hz)]
theorem join_psl : ∀ s : List UInt8, joinL (psl 47 s) = s
  | [] => rfl
  | b :: s => by
    have ih := join_psl s
    by_cases hb : b = 47
    · subst hb
      rw [psl_cons_eq, joinL_cons _ (psl_ne 47 s), ih]; rfl
    · obtain ⟨x, t, e1, e2⟩ := psl_cons_ne hb s
      rw [e2]; rw [e1] at ih
      cases t with
      | nil => exact congrArg (b :: ·) ih
      | cons y r => exact congrArg (b :: ·) ih
theorem psl_no (c : UInt8) : ∀ s : List UInt8, ∀ x ∈ psl c s, c ∉ x
  | [], x, h => by simp [psl] at h; subst h; simp
  | b :: s, x, h => by
    have ih := psl_no c s
    by_cases hb : b = c
    · subst hb
      rw [psl_cons_eq] at h
      rcases List.mem_cons.1 h with rfl | h
      · simp
      · exact ih x h
    · obtain ⟨y, t, e1, e2⟩ := psl_cons_ne hb s
      rw [e2] at h
      rw [e1] at ih
      rcases List.mem_cons.1 h with rfl | h
      · intro hm
        rcases List.mem_cons.1 hm with h1 | h1
        · exact hb h1.symm
        · exact ih y (List.mem_cons_self ..) h1
      · exact ih x (List.mem_cons_of_mem _ h)
def hgW : List UInt8 := [46, 104, 103]
def hgE (x : List UInt8) : Bool := hasSuffix x [46, 105] || hasSuffix x [46, 100] || hasSuffix x hgW
def hgL (x : List UInt8) : List UInt8 := if hgE x = true then x ++ hgW else x
def hgU (x : List UInt8) : Bool := hasSuffix x [46, 105, 46, 104, 103] || hasSuffix x [46, 100, 46, 104, 103] || hasSuffix x [46, 104, 103, 46, 104, 103]
def unhg (x : List UInt8) : List UInt8 := if hgU x = true then x.take (x.length - 3) else x
theorem suf_app (x e h : List UInt8) : hasSuffix (x ++ h) (e ++ h) = hasSuffix x e := by
  unfold hasSuffix
  rw [Bool.eq_iff_iff, List.isSuffixOf_iff_suffix, List.isSuffixOf_iff_suffix]
  constructor
  · rintro ⟨t, ht⟩
    rw [← List.append_assoc] at ht
    exact ⟨t, List.append_cancel_right ht⟩
  · rintro ⟨t, ht⟩
    exact ⟨t, by rw [← List.append_assoc, ht]⟩
theorem suf_more {x e : List UInt8} (h : hasSuffix x (e ++ hgW) = true) : hasSuffix x hgW = true := by
  unfold hasSuffix at h ⊢
  rw [List.isSuffixOf_iff_suffix] at h ⊢
  exact (List.suffix_append e hgW).trans h
theorem unhg_hg (x : List UInt8) : unhg (hgL x) = x := by
  unfold unhg hgL
  cases he : hgE x with
  | true =>
    rw [if_pos rfl]
    have : hgU (x ++ hgW) = true := by
      have e1 := suf_app x [46, 105] hgW
      have e2 := suf_app x [46, 100] hgW
      have e3 := suf_app x hgW hgW
      unfold hgU
      unfold hgE at he
      rw [← e1, ← e2, ← e3] at he
      exact he
    rw [if_pos this]
    simp [hgW]
  | false =>
    rw [if_neg Bool.false_ne_true]
    have h3 : hasSuffix x hgW = false := by
      unfold hgE at he
      simp only [Bool.or_eq_false_iff] at he
      exact he.2
    have : hgU x = false := by
      unfold hgU
      have n : ∀ e, hasSuffix x (e ++ hgW) = false := fun e => by
        cases h : hasSuffix x (e ++ hgW) with
        | false => rfl
        | true => rw [suf_more h] at h3; cases h3
      rw [show ([46, 105, 46, 104, 103] : List UInt8) = [46, 105] ++ hgW from rfl, show ([46, 100, 46, 104, 103] : List UInt8) = [46, 100] ++ hgW from rfl, show ([46, 104, 103, 46, 104, 103] : List UInt8) = hgW ++ hgW from rfl, n, n, n]; rfl
    rw [this, if_neg Bool.false_ne_true]
def encPs : List (List UInt8) → List (List UInt8)
  | [] => []
  | [x] => [partL x]
  | x :: y :: r => partL (hgL x) :: encPs (y :: r)
def decPs : List (List UInt8) → List (List UInt8)
  | [] => []
  | [x] => [backL x]
  | x :: y :: r => unhg (backL x) :: decPs (y :: r)
theorem encPs_ne {l : List (List UInt8)} (h : l ≠ []) : encPs l ≠ [] := by
  match l, h with
  | [x], _ => simp [encPs]
  | x :: y :: r, _ => simp [encPs]
theorem dec_enc : ∀ l : List (List UInt8), decPs (encPs l) = l
  | [] => rfl
  | [x] => by show [backL (partL x)] = _; rw [back_part]
  | x :: y :: r => by
    have ih := dec_enc (y :: r)
    have hne := encPs_ne (l := y :: r) (by simp)
    show decPs (partL (hgL x) :: encPs (y :: r)) = _
    cases h : encPs (y :: r) with
    | nil => exact absurd h hne
    | cons z t =>
      show unhg (backL (partL (hgL x))) :: decPs (z :: t) = _
      rw [← h, ih, back_part, unhg_hg]
theorem encPs_app (a : List (List UInt8)) {b : List (List UInt8)} (h : b ≠ []) : encPs (a ++ b) = (a.map fun x => partL (hgL x)) ++ encPs b := by
  induction a with
  | nil => rfl
  | cons x a ih =>
    cases hb : a ++ b with
    | nil => exact absurd (List.append_eq_nil_iff.1 hb).2 h
    | cons y r =>
      rw [List.cons_append, hb]
      show partL (hgL x) :: encPs (y :: r) = _
      rw [← hb, ih]; rfl
theorem encPs_length : ∀ l : List (List UInt8), (encPs l).length = l.length
  | [] => rfl
  | [_] => rfl
  | x :: y :: r => by
    show (encPs (y :: r)).length + 1 = _
    rw [encPs_length (y :: r)]; rfl
theorem encT_byte {c y : UInt8} {k : Bool} (h : y ∈ encT (c, k)) : 32 ≤ y.toNat ∧ y.toNat ≤ 126 ∧ ¬ (65 ≤ y.toNat ∧ y.toNat ≤ 90) ∧ (y = 47 → c = 47) := by
  have told : y ∈ toldL c → 32 ≤ y.toNat ∧ y.toNat ≤ 126 ∧ ¬ (65 ≤ y.toNat ∧ y.toNat ≤ 90) ∧ (y = 47 → c = 47) := fun h => by
    have h1 : c.toNat < 256 := c.toNat_lt
    simp only [toldL, List.mem_cons, List.not_mem_nil, or_false] at h
    rcases h with rfl | h | h
    · exact ⟨by decide, by decide, by decide, fun e => absurd e (by decide)⟩
    · have := hxd_ok (c.toNat / 16) (by omega)
      rw [← h] at this
      exact ⟨by omega, by omega, by omega, fun e => by rw [e] at this; simp at this⟩
    · have := hxd_ok (c.toNat % 16) (by omega)
      rw [← h] at this
      exact ⟨by omega, by omega, by omega, fun e => by rw [e] at this; simp at this⟩
  cases k with
  | true => exact told h
  | false =>
    have h : y ∈ encC c := h
    rcases encC_cases c with ⟨hu, e⟩ | ⟨-, e⟩ | ⟨-, -, -, e⟩ | ⟨hu, -, h2, e⟩ <;> rw [e] at h
    · have h2 := up_le hu
      have hn : (UInt8.ofNat (c.toNat + 32)).toNat = c.toNat + 32 := by rw [UInt8.toNat_ofNat']; omega
      simp only [List.mem_cons, List.not_mem_nil, or_false] at h
      rcases h with rfl | h
      · exact ⟨by decide, by decide, by decide, fun e => absurd e (by decide)⟩
      · rw [h, hn]
        refine ⟨by omega, by omega, by omega, fun e => ?_⟩
        have := congrArg UInt8.toNat e
        rw [hn] at this; simp at this; omega
    · simp only [List.mem_cons, List.not_mem_nil, or_false, or_self] at h
      subst h
      exact ⟨by decide, by decide, by decide, fun e => absurd e (by decide)⟩
    · exact told h
    · simp only [List.mem_cons, List.not_mem_nil, or_false] at h
      subst h
      obtain ⟨a1, a2, -⟩ := sp_not h2
      refine ⟨a1, by omega, fun ⟨b1, b2⟩ => ?_, fun e => e⟩
      unfold isUp at hu
      simp only [Bool.and_eq_false_iff, decide_eq_false_iff_not] at hu
      omega
theorem part_byte {x : List UInt8} {y : UInt8} (h : y ∈ partL x) : 32 ≤ y.toNat ∧ y.toNat ≤ 126 ∧ ¬ (65 ≤ y.toNat ∧ y.toNat ≤ 90) ∧ (y = 47 → (47 : UInt8) ∈ x) := by
  obtain ⟨ts, h1, h2⟩ := part_toks x
  rw [h1] at h
  obtain ⟨⟨c, k⟩, hm, hy⟩ := List.mem_flatMap.1 h
  obtain ⟨a, b, d, e⟩ := encT_byte hy
  refine ⟨a, b, d, fun hy => ?_⟩
  rw [← h2, ← e hy]
  exact List.mem_map.2 ⟨(c, k), hm, rfl⟩
theorem hg_no {x : List UInt8} (h : (47 : UInt8) ∉ x) : (47 : UInt8) ∉ hgL x := by
  unfold hgL
  split
  · intro hm
    rcases List.mem_append.1 hm with h1 | h1
    · exact h h1
    · simp [hgW] at h1
  · exact h
theorem encPs_byte : ∀ {l : List (List UInt8)}, ∀ z ∈ encPs l, (∀ y ∈ z, 32 ≤ y.toNat ∧ y.toNat ≤ 126 ∧ ¬ (65 ≤ y.toNat ∧ y.toNat ≤ 90)) ∧ ((∀ x ∈ l, (47 : UInt8) ∉ x) → (47 : UInt8) ∉ z)
  | [], z, h => by simp [encPs] at h
  | [x], z, h => by
    simp only [encPs, List.mem_cons, List.not_mem_nil, or_false] at h
    subst h
    refine ⟨fun y hy => ?_, fun hn hm => hn x (List.mem_cons_self ..) ((part_byte hm).2.2.2 rfl)⟩
    obtain ⟨a, b, c, -⟩ := part_byte hy
    exact ⟨a, b, c⟩
  | x :: y :: r, z, h => by
    rcases List.mem_cons.1 (show z ∈ partL (hgL x) :: encPs (y :: r) from h) with rfl | h
    · refine ⟨fun y hy => ?_, fun hn hm => hg_no (hn x (List.mem_cons_self ..)) ((part_byte hm).2.2.2 rfl)⟩
      obtain ⟨a, b, c, -⟩ := part_byte hy
      exact ⟨a, b, c⟩
    · obtain ⟨a, b⟩ := encPs_byte z h
      exact ⟨a, fun hn => b fun x hx => hn x (List.mem_cons_of_mem _ hx)⟩
def dataW : List UInt8 := [100, 97, 116, 97, 47]
def iW : List UInt8 := [46, 105]
def midL (p : List UInt8) : List UInt8 := joinL (encPs (psl 47 p))
def nameL (p : List UInt8) : List UInt8 := dataW ++ (midL p ++ iW)
def unmid (s : List UInt8) : List UInt8 := joinL (decPs (psl 47 s))
theorem unmid_mid (p : List UInt8) : unmid (midL p) = p := by
  unfold unmid midL
  rw [psl_join _ (encPs_ne (psl_ne 47 p)) fun z hz => (encPs_byte z hz).2 (psl_no 47 p), dec_enc, join_psl]
end Go.Proofs.YtakojeefilpibaaDoor
namespace Go.Proofs.YtakojeefilpibaaDoor
set_option linter.all false
open Go.Lib (hasSuffix hasPrefix)
theorem encT_len (t : UInt8 × Bool) : 1 ≤ (encT t).length ∧ (encT t).length ≤ 3 := by
  obtain ⟨c, k⟩ := t
  cases k with
  | true => exact ⟨by show 1 ≤ 3; omega, Nat.le_refl _⟩
  | false =>
    show 1 ≤ (encC c).length ∧ (encC c).length ≤ 3
    rcases encC_cases c with ⟨-, e⟩ | ⟨-, e⟩ | ⟨-, -, -, e⟩ | ⟨-, -, -, e⟩ <;> rw [e] <;> simp [toldL]
theorem encTs_len : ∀ ts : List (UInt8 × Bool), ts.length ≤ (encTs ts).length ∧ (encTs ts).length ≤ 3 * ts.length
  | [] => ⟨Nat.le_refl _, Nat.le_refl _⟩
  | t :: ts => by
    have e : encTs (t :: ts) = encT t ++ encTs ts := rfl
    have h1 := encT_len t
    have h2 := encTs_len ts
    rw [e, List.length_append, List.length_cons]
    omega
theorem nmp_len (x : List UInt8) : x.length ≤ (partL x).length ∧ (partL x).length ≤ 3 * x.length := by
  obtain ⟨ts, h1, h2⟩ := part_toks x
  have h3 := encTs_len ts
  have h4 := congrArg List.length h2
  rw [List.length_map] at h4
  rw [h1, ← h4]; exact h3
theorem encP_len (x : List UInt8) : (encP x).length ≤ 3 * x.length := by
  have h := (encTs_len (x.map (·, false))).2
  rw [encTs_plain, List.length_map] at h; exact h
theorem st3_len (k : Bool) (s : List UInt8) : (st3 k s).length ≤ s.length + 3 := by
  unfold st3
  split
  · simp only [List.length_append, List.length_take, List.length_drop, toldL, List.length_cons, List.length_nil]; omega
  · omega
theorem part_hg {x : List UInt8} (h : hgE x = true) : (partL (x ++ hgW)).length ≤ 3 * x.length + 8 := by
  have e : encP (x ++ hgW) = encP x ++ hgW := by
    unfold encP
    rw [List.flatMap_append]; rfl
  have hl := encP_len x
  cases hx : encP x with
  | nil =>
    have : x = [] := by
      cases x with
      | nil => rfl
      | cons c x =>
        have : encP (c :: x) = encC c ++ encP x := rfl
        rw [this, List.append_eq_nil_iff] at hx
        exact absurd hx.1 (encC_ne c)
    subst this
    exact absurd h (by decide)
  | cons y r =>
    have e1 : ∃ A, st1 (y :: r ++ hgW) = A ++ hgW ∧ A.length ≤ (y :: r).length + 2 := by
      show ∃ A, (if dotB y = true then toldL y ++ (r ++ hgW) else y :: (r ++ hgW)) = A ++ hgW ∧ _
      split
      · exact ⟨toldL y ++ r, by rw [List.append_assoc], by simp [toldL]⟩
      · exact ⟨y :: r, rfl, by omega⟩
    obtain ⟨A, hA, hAl⟩ := e1
    have h2 : st2 (A ++ hgW) = A ++ hgW := by
      rw [st2_app _ _ (by decide)]
      congr 1
    have h3 := st3_len (keptL (frontP (encP (x ++ hgW)))) (A ++ hgW)
    have : (partL (x ++ hgW)).length ≤ (A ++ hgW).length + 3 := by
      unfold partL
      rw [e, hx, hA, h2, ← hx, ← e]; exact h3
    rw [hx] at hl
    rw [List.length_append] at this
    have hg : hgW.length = 3 := rfl
    omega
theorem hg_len (x : List UInt8) : x.length ≤ (partL (hgL x)).length ∧ (partL (hgL x)).length ≤ 3 * x.length + 8 := by
  have h1 := nmp_len (hgL x)
  unfold hgL at h1 ⊢
  cases h : hgE x with
  | true =>
    rw [if_pos h] at h1
    rw [if_pos rfl]
    exact ⟨by have := h1.1; rw [List.length_append] at this; omega, part_hg h⟩
  | false =>
    rw [if_neg (by rw [h]; exact Bool.false_ne_true)] at h1
    rw [if_neg Bool.false_ne_true]
    exact ⟨h1.1, by have := h1.2; omega⟩
theorem enc_join_len : ∀ l : List (List UInt8), l ≠ [] → (joinL l).length ≤ (joinL (encPs l)).length ∧ (joinL (encPs l)).length + 6 ≤ 3 * (joinL l).length + 6 * l.length
  | [], h => absurd rfl h
  | [x], _ => by
    have := nmp_len x
    show x.length ≤ (partL x).length ∧ (partL x).length + 6 ≤ 3 * x.length + 6 * 1
    omega
  | x :: y :: r, _ => by
    obtain ⟨a, b⟩ := enc_join_len (y :: r) (by simp)
    obtain ⟨c, d⟩ := hg_len x
    have e1 : joinL (encPs (x :: y :: r)) = partL (hgL x) ++ 47 :: joinL (encPs (y :: r)) := joinL_cons _ (encPs_ne (by simp))
    have e2 : joinL (x :: y :: r) = x ++ 47 :: joinL (y :: r) := rfl
    rw [e1, e2, List.length_append, List.length_append, List.length_cons, List.length_cons]
    simp only [List.length_cons] at a b ⊢
    omega
theorem psl_count : ∀ s : List UInt8, (psl 47 s).length = s.count 47 + 1
  | [] => rfl
  | b :: s => by
    have ih := psl_count s
    by_cases hb : b = 47
    · subst hb
      rw [psl_cons_eq, List.length_cons, ih, List.count_cons_self]
    · obtain ⟨x, t, e1, e2⟩ := psl_cons_ne hb s
      rw [e2, List.count_cons_of_ne hb, ← ih, e1]; rfl
theorem name_len (p : List UInt8) : p.length + 7 ≤ (nameL p).length ∧ (nameL p).length ≤ 3 * p.length + 10 + 6 * (p.count 47 + 1) := by
  obtain ⟨a, b⟩ := enc_join_len (psl 47 p) (psl_ne 47 p)
  rw [join_psl] at a b
  rw [psl_count] at b
  have e : (nameL p).length = (joinL (encPs (psl 47 p))).length + 7 := by
    unfold nameL midL dataW iW
    simp only [List.length_append, List.length_cons, List.length_nil]; omega
  omega
theorem psl_append : ∀ (d p : List UInt8), psl 47 (d ++ 47 :: p) = psl 47 d ++ psl 47 p
  | [], p => psl_cons_eq 47 p
  | b :: d, p => by
    have ih := psl_append d p
    by_cases hb : b = 47
    · subst hb
      rw [List.cons_append, psl_cons_eq, psl_cons_eq, ih]; rfl
    · obtain ⟨x, t, e1, e2⟩ := psl_cons_ne hb (d ++ 47 :: p)
      obtain ⟨x', t', e3, e4⟩ := psl_cons_ne hb d
      rw [List.cons_append, e2, e4]
      rw [ih, e3] at e1
      injection e1 with e1 e5
      rw [← e1, ← e5]; rfl
def headL (d : List UInt8) : List UInt8 := ((psl 47 d).map fun x => partL (hgL x)).flatMap fun a => a ++ [47]
theorem joinL_app (A : List (List UInt8)) {B : List (List UInt8)} (h : B ≠ []) : joinL (A ++ B) = (A.flatMap fun a => a ++ [47]) ++ joinL B := by
  induction A with
  | nil => rfl
  | cons x A ih =>
    rw [List.cons_append, joinL_cons _ (by simp [h]), ih]
    simp
theorem nameL_dir (d p : List UInt8) : nameL (d ++ 47 :: p) = (dataW ++ headL d) ++ (midL p ++ iW) := by
  unfold nameL midL headL
  rw [psl_append, encPs_app _ (psl_ne 47 p), joinL_app _ (encPs_ne (psl_ne 47 p))]
  simp only [List.append_assoc]
theorem flat_count : ∀ A : List (List UInt8), (∀ x ∈ A, (47 : UInt8) ∉ x) → (A.flatMap fun a => a ++ [47]).count 47 = A.length
  | [], _ => rfl
  | x :: A, h => by
    rw [List.flatMap_cons, List.count_append, List.count_append, flat_count A fun y hy => h y (List.mem_cons_of_mem _ hy), List.count_eq_zero.2 (h x (List.mem_cons_self ..))]
    simp; omega
theorem head_count (d : List UInt8) : (dataW ++ headL d).count 47 = d.count 47 + 2 := by
  unfold headL
  rw [List.count_append, flat_count, List.length_map, psl_count]
  · have : dataW.count 47 = 1 := by decide
    omega
  · intro x hx
    obtain ⟨y, hy, rfl⟩ := List.mem_map.1 hx
    exact fun hm => hg_no (psl_no 47 d y hy) ((part_byte hm).2.2.2 rfl)
theorem head_last (d : List UInt8) : ∃ P, dataW ++ headL d = P ++ [47] := by
  unfold headL
  rcases List.eq_nil_or_concat (psl 47 d) with h | ⟨l, t, h⟩
  · exact absurd h (psl_ne 47 d)
  · rw [h, List.concat_eq_append, List.map_append, List.flatMap_append]
    exact ⟨dataW ++ ((l.map fun x => partL (hgL x)).flatMap fun a => a ++ [47]) ++ partL (hgL t), by simp⟩
theorem head_short (d : List UInt8) {k : Nat} (h : k < (dataW ++ headL d).length) : ((dataW ++ headL d).take k).count 47 ≤ d.count 47 + 1 := by
  obtain ⟨P, hP⟩ := head_last d
  have hc := head_count d
  rw [hP] at h hc ⊢
  rw [List.count_append] at hc
  rw [List.length_append] at h
  rw [List.take_append_of_le_length (by simp at h; omega)]
  have := (List.take_sublist k P).count_le 47
  simp at hc
  omega
end Go.Proofs.YtakojeefilpibaaDoor
namespace Go.Proofs.YtakojeefilpibaaDoor
set_option linter.all false
open Go.Shelf
def Tryd.lays119_ren : Go.Shelf.Ren := ⟨fun | 119 => 56 | n => n, fun | 21 => 21 | 4 => 4 | n => n, fun | n => n⟩
theorem Tryd.lays119 : Go.Proofs.Lays.n119 Tryd.prog Tryd.lays119_ren := {
  mixed := by kernel_rfl
  f119 := Tryd.func56.trans (congrArg some (by kernel_rfl))
  t4 := Tryd.underlying4
  a4 := Tryd.isAgg4
  z4 := Tryd.sizeOf4
  v4 := Tryd.zeroValue4
  t21 := Tryd.underlying21
  a21 := Tryd.isAgg21
  z21 := Tryd.sizeOf21
  v21 := Tryd.zeroValue21 }
theorem Tryd.utf8_ValidRune (r : Int) (w : World) :
    Calls Tryd.prog 56 #[.int .i32 r] w fun e w' => e = .returned (.bool (Lib.validRune r)) ∧ w' = w := Any.utf8_ValidRune Tryd.lays119 r w
def Tryd.lays137_ren : Go.Shelf.Ren := ⟨fun | 137 => 31 | 217 => 43 | 266 => 55 | n => n, fun | 9 => 9 | 5 => 5 | 3 => 3 | n => n, fun | n => n⟩
theorem Tryd.lays137 : Go.Proofs.Lays.n137 Tryd.prog Tryd.lays137_ren := {
  mixed := by kernel_rfl
  f137 := Tryd.func31.trans (congrArg some (by kernel_rfl))
  f217 := Tryd.func43.trans (congrArg some (by kernel_rfl))
  f266 := Tryd.func55.trans (congrArg some (by kernel_rfl))
  t3 := Tryd.underlying3
  a3 := Tryd.isAgg3
  z3 := Tryd.sizeOf3
  v3 := Tryd.zeroValue3
  t5 := Tryd.underlying5
  a5 := Tryd.isAgg5
  z5 := Tryd.sizeOf5
  v5 := Tryd.zeroValue5
  t9 := Tryd.underlying9
  a9 := Tryd.isAgg9
  z9 := Tryd.sizeOf9
  v9 := Tryd.zeroValue9 }
open Go.RowKit in
theorem Tryd.strings_IndexByte (s : ByteArray) (c : Int) (w : World) :
    Calls Tryd.prog 31 #[.string s, .int .u8 c] w fun e w' => e = .returned (.int .i64 (Lib.indexByte s.data.toList c.toNat.toUInt8)) ∧ w' = w := Any.strings_IndexByte Tryd.lays137 s c w
def Tryd.lays145_ren : Go.Shelf.Ren := ⟨fun | 145 => 25 | 220 => 39 | 219 => 51 | 217 => 43 | 225 => 58 | 224 => 57 | 267 => 60 | 266 => 55 | 314 => 61 | n => n, fun | 9 => 9 | 4 => 4 | 59 => 48 | 3 => 3 | 5 => 5 | 46 => 52 | 146 => 80 | 51 => 79 | n => n, fun | 1 => 0 | n => n⟩
theorem Tryd.lays145 : Go.Proofs.Lays.n145 Tryd.prog Tryd.lays145_ren := {
  mixed := by kernel_rfl
  f145 := Tryd.func25.trans (congrArg some (by kernel_rfl))
  f217 := Tryd.func43.trans (congrArg some (by kernel_rfl))
  f219 := Tryd.func51.trans (congrArg some (by kernel_rfl))
  f220 := Tryd.func39.trans (congrArg some (by kernel_rfl))
  f224 := Tryd.func57.trans (congrArg some (by kernel_rfl))
  f225 := Tryd.func58.trans (congrArg some (by kernel_rfl))
  f266 := Tryd.func55.trans (congrArg some (by kernel_rfl))
  f267 := Tryd.func60.trans (congrArg some (by kernel_rfl))
  f314 := Tryd.func61.trans (congrArg some (by kernel_rfl))
  t3 := Tryd.underlying3
  a3 := Tryd.isAgg3
  z3 := Tryd.sizeOf3
  v3 := Tryd.zeroValue3
  t4 := Tryd.underlying4
  a4 := Tryd.isAgg4
  z4 := Tryd.sizeOf4
  v4 := Tryd.zeroValue4
  t5 := Tryd.underlying5
  a5 := Tryd.isAgg5
  z5 := Tryd.sizeOf5
  v5 := Tryd.zeroValue5
  t9 := Tryd.underlying9
  a9 := Tryd.isAgg9
  z9 := Tryd.sizeOf9
  v9 := Tryd.zeroValue9
  t46 := Tryd.underlying52
  a46 := Tryd.isAgg52
  z46 := Tryd.sizeOf52
  v46 := Tryd.zeroValue52
  t51 := Tryd.underlying79
  a51 := Tryd.isAgg79
  z51 := Tryd.sizeOf79
  v51 := Tryd.zeroValue79
  t59 := Tryd.underlying48
  a59 := Tryd.isAgg48
  z59 := Tryd.sizeOf48
  v59 := Tryd.zeroValue48
  t146 := Tryd.underlying80
  a146 := Tryd.isAgg80
  z146 := Tryd.sizeOf80
  v146 := Tryd.zeroValue80
  g1 := by kernel_rfl }
open Go.RowKit Go.Lib in
theorem Tryd.strings_Cut (s sep : ByteArray) (m : Int) (w : World) (hs : s.size < 4294967281) (hm : w.cell? ⟨0, 0, none⟩ = some (.int .i64 m)) :
    Calls Tryd.prog 25 #[.string s, .string sep] w fun e w' => e = .returned (.tuple #[.string ⟨(Lib.cut s.data.toList sep.data.toList).1.toArray⟩, .string ⟨(Lib.cut s.data.toList sep.data.toList).2.1.toArray⟩, .bool (Lib.cut s.data.toList sep.data.toList).2.2]) ∧ ∃ n, w' = w.drewN n := Any.strings_Cut Tryd.lays145 s sep m w hs hm
def Tryd.lays100_ren : Go.Shelf.Ren := ⟨fun | 100 => 10 | 207 => 21 | n => n, fun | 9 => 9 | 4 => 4 | 3 => 3 | n => n, fun | n => n⟩
theorem Tryd.lays100 : Go.Proofs.Lays.n100 Tryd.prog Tryd.lays100_ren := {
  mixed := by kernel_rfl
  f100 := Tryd.func10.trans (congrArg some (by kernel_rfl))
  f207 := Tryd.func21.trans (congrArg some (by kernel_rfl))
  t3 := Tryd.underlying3
  a3 := Tryd.isAgg3
  z3 := Tryd.sizeOf3
  v3 := Tryd.zeroValue3
  t4 := Tryd.underlying4
  a4 := Tryd.isAgg4
  z4 := Tryd.sizeOf4
  v4 := Tryd.zeroValue4
  t9 := Tryd.underlying9
  a9 := Tryd.isAgg9
  z9 := Tryd.sizeOf9
  v9 := Tryd.zeroValue9 }
open Go.RowKit Go.Lib in
theorem Tryd.strings_HasSuffix (s p : ByteArray) (w : World) (hs : s.size ≤ 9223372036854775807) :
    Calls Tryd.prog 10 #[.string s, .string p] w fun e w' => e = .returned (.bool (Lib.hasSuffix s.data.toList p.data.toList)) ∧ w' = w := Any.strings_HasSuffix Tryd.lays100 s p w hs
def Tryd.lays103_ren : Go.Shelf.Ren := ⟨fun | 103 => 13 | 210 => 29 | 206 => 42 | n => n, fun | 9 => 9 | 4 => 4 | 24 => 33 | 3 => 3 | n => n, fun | n => n⟩
theorem Tryd.lays103 : Go.Proofs.Lays.n103 Tryd.prog Tryd.lays103_ren := {
  mixed := by kernel_rfl
  f103 := Tryd.func13.trans (congrArg some (by kernel_rfl))
  f206 := Tryd.func42.trans (congrArg some (by kernel_rfl))
  f210 := Tryd.func29.trans (congrArg some (by kernel_rfl))
  t3 := Tryd.underlying3
  a3 := Tryd.isAgg3
  z3 := Tryd.sizeOf3
  v3 := Tryd.zeroValue3
  t4 := Tryd.underlying4
  a4 := Tryd.isAgg4
  z4 := Tryd.sizeOf4
  v4 := Tryd.zeroValue4
  t9 := Tryd.underlying9
  a9 := Tryd.isAgg9
  z9 := Tryd.sizeOf9
  v9 := Tryd.zeroValue9
  t24 := Tryd.underlying33
  a24 := Tryd.isAgg33
  z24 := Tryd.sizeOf33
  v24 := Tryd.zeroValue33 }
open Go.RowKit in
theorem Tryd.strings_CutPrefix (s p : ByteArray) (w : World) :
    Calls Tryd.prog 13 #[.string s, .string p] w fun e w' => e = .returned (.tuple #[.string ⟨(Lib.trimPrefix s.data.toList p.data.toList).toArray⟩, .bool (Lib.hasPrefix s.data.toList p.data.toList)]) ∧ w' = w := Any.strings_CutPrefix Tryd.lays103 s p w
def Tryd.lays104_ren : Go.Shelf.Ren := ⟨fun | 104 => 14 | 211 => 30 | 207 => 21 | n => n, fun | 9 => 9 | 4 => 4 | 24 => 33 | 3 => 3 | n => n, fun | n => n⟩
theorem Tryd.lays104 : Go.Proofs.Lays.n104 Tryd.prog Tryd.lays104_ren := {
  mixed := by kernel_rfl
  f104 := Tryd.func14.trans (congrArg some (by kernel_rfl))
  f207 := Tryd.func21.trans (congrArg some (by kernel_rfl))
  f211 := Tryd.func30.trans (congrArg some (by kernel_rfl))
  t3 := Tryd.underlying3
  a3 := Tryd.isAgg3
  z3 := Tryd.sizeOf3
  v3 := Tryd.zeroValue3
  t4 := Tryd.underlying4
  a4 := Tryd.isAgg4
  z4 := Tryd.sizeOf4
  v4 := Tryd.zeroValue4
  t9 := Tryd.underlying9
  a9 := Tryd.isAgg9
  z9 := Tryd.sizeOf9
  v9 := Tryd.zeroValue9
  t24 := Tryd.underlying33
  a24 := Tryd.isAgg33
  z24 := Tryd.sizeOf33
  v24 := Tryd.zeroValue33 }
open Go.RowKit in
theorem Tryd.strings_CutSuffix (s p : ByteArray) (w : World) (hs : s.size ≤ 9223372036854775807) :
    Calls Tryd.prog 14 #[.string s, .string p] w fun e w' => e = .returned (.tuple #[.string ⟨(Lib.trimSuffix s.data.toList p.data.toList).toArray⟩, .bool (Lib.hasSuffix s.data.toList p.data.toList)]) ∧ w' = w := Any.strings_CutSuffix Tryd.lays104 s p w hs
def Tryd.lays102_ren : Go.Shelf.Ren := ⟨fun | 102 => 16 | 209 => 32 | 207 => 21 | n => n, fun | 9 => 9 | 4 => 4 | 3 => 3 | n => n, fun | n => n⟩
theorem Tryd.lays102 : Go.Proofs.Lays.n102 Tryd.prog Tryd.lays102_ren := {
  mixed := by kernel_rfl
  f102 := Tryd.func16.trans (congrArg some (by kernel_rfl))
  f207 := Tryd.func21.trans (congrArg some (by kernel_rfl))
  f209 := Tryd.func32.trans (congrArg some (by kernel_rfl))
  t3 := Tryd.underlying3
  a3 := Tryd.isAgg3
  z3 := Tryd.sizeOf3
  v3 := Tryd.zeroValue3
  t4 := Tryd.underlying4
  a4 := Tryd.isAgg4
  z4 := Tryd.sizeOf4
  v4 := Tryd.zeroValue4
  t9 := Tryd.underlying9
  a9 := Tryd.isAgg9
  z9 := Tryd.sizeOf9
  v9 := Tryd.zeroValue9 }
open Go.RowKit Go.Lib in
theorem Tryd.strings_TrimSuffix (s p : ByteArray) (w : World) (hs : s.size ≤ 9223372036854775807) :
    Calls Tryd.prog 16 #[.string s, .string p] w fun e w' => e = .returned (.string ⟨(Lib.trimSuffix s.data.toList p.data.toList).toArray⟩) ∧ w' = w := Any.strings_TrimSuffix Tryd.lays102 s p w hs
def Tryd.lays146_ren : Go.Shelf.Ren := ⟨fun | 146 => 9 | 221 => 20 | 268 => 35 | 138 => 36 | 143 => 37 | 195 => 48 | 197 => 49 | 218 => 50 | 219 => 51 | 260 => 59 | 217 => 43 | 225 => 58 | 224 => 57 | 267 => 60 | 266 => 55 | 314 => 61 | n => n, fun | 9 => 9 | 31 => 29 | 3 => 3 | 4 => 4 | 0 => 0 | 105 => 66 | 21 => 21 | 5 => 5 | 46 => 52 | 119 => 75 | 139 => 78 | 138 => 77 | 146 => 80 | 51 => 79 | n => n, fun | 1 => 0 | 3 => 1 | 4 => 2 | n => n⟩
theorem Tryd.lays146 : Go.Proofs.Lays.n146 Tryd.prog Tryd.lays146_ren := {
  mixed := by kernel_rfl
  f138 := Tryd.func36.trans (congrArg some (by kernel_rfl))
  f143 := Tryd.func37.trans (congrArg some (by kernel_rfl))
  f146 := Tryd.func9.trans (congrArg some (by kernel_rfl))
  f195 := Tryd.func48.trans (congrArg some (by kernel_rfl))
  f197 := Tryd.func49.trans (congrArg some (by kernel_rfl))
  f217 := Tryd.func43.trans (congrArg some (by kernel_rfl))
  f218 := Tryd.func50.trans (congrArg some (by kernel_rfl))
  f219 := Tryd.func51.trans (congrArg some (by kernel_rfl))
  f221 := Tryd.func20.trans (congrArg some (by kernel_rfl))
  f224 := Tryd.func57.trans (congrArg some (by kernel_rfl))
  f225 := Tryd.func58.trans (congrArg some (by kernel_rfl))
  f260 := Tryd.func59.trans (congrArg some (by kernel_rfl))
  f266 := Tryd.func55.trans (congrArg some (by kernel_rfl))
  f267 := Tryd.func60.trans (congrArg some (by kernel_rfl))
  f268 := Tryd.func35.trans (congrArg some (by kernel_rfl))
  f314 := Tryd.func61.trans (congrArg some (by kernel_rfl))
  t0 := Tryd.underlying0
  a0 := Tryd.isAgg0
  z0 := Tryd.sizeOf0
  v0 := Tryd.zeroValue0
  t3 := Tryd.underlying3
  a3 := Tryd.isAgg3
  z3 := Tryd.sizeOf3
  v3 := Tryd.zeroValue3
  t4 := Tryd.underlying4
  a4 := Tryd.isAgg4
  z4 := Tryd.sizeOf4
  v4 := Tryd.zeroValue4
  t5 := Tryd.underlying5
  a5 := Tryd.isAgg5
  z5 := Tryd.sizeOf5
  v5 := Tryd.zeroValue5
  t9 := Tryd.underlying9
  a9 := Tryd.isAgg9
  z9 := Tryd.sizeOf9
  v9 := Tryd.zeroValue9
  t21 := Tryd.underlying21
  a21 := Tryd.isAgg21
  z21 := Tryd.sizeOf21
  v21 := Tryd.zeroValue21
  t31 := Tryd.underlying29
  a31 := Tryd.isAgg29
  z31 := Tryd.sizeOf29
  v31 := Tryd.zeroValue29
  t46 := Tryd.underlying52
  a46 := Tryd.isAgg52
  z46 := Tryd.sizeOf52
  v46 := Tryd.zeroValue52
  t51 := Tryd.underlying79
  a51 := Tryd.isAgg79
  z51 := Tryd.sizeOf79
  v51 := Tryd.zeroValue79
  t105 := Tryd.underlying66
  a105 := Tryd.isAgg66
  z105 := Tryd.sizeOf66
  v105 := Tryd.zeroValue66
  t119 := Tryd.underlying75
  a119 := Tryd.isAgg75
  z119 := Tryd.sizeOf75
  t138 := Tryd.underlying77
  a138 := Tryd.isAgg77
  z138 := Tryd.sizeOf77
  v138 := Tryd.zeroValue77
  t139 := Tryd.underlying78
  a139 := Tryd.isAgg78
  z139 := Tryd.sizeOf78
  v139 := Tryd.zeroValue78
  t146 := Tryd.underlying80
  a146 := Tryd.isAgg80
  z146 := Tryd.sizeOf80
  v146 := Tryd.zeroValue80
  g1 := by kernel_rfl
  g3 := by kernel_rfl
  g4 := by kernel_rfl }
open Go.RowKit Go.Lib in
theorem Tryd.strings_Split (s sep : ByteArray) (m : Int) (w : World) (hs : s.size < 4294967281) (hm : w.cell? ⟨0, 0, none⟩ = some (.int .i64 m)) (h1 : 1 ≤ sep.size) :
    Calls Tryd.prog 9 #[.string s, .string sep] w fun e w' =>
      e = .returned (.slice (some ⟨w.heap.size, 0, none⟩) (Lib.countB s sep + 1) (Lib.countB s sep + 1)) ∧ w' = w.alloc (.cells ((Lib.splitB sep 0 (Lib.countB s sep) s).map Value.string).toArray 9) := Any.strings_Split Tryd.lays146 (by kernel_rfl) s sep m w hs hm h1
def Tryd.lays152_ren : Go.Shelf.Ren := ⟨fun | 152 => 44 | 137 => 31 | 119 => 56 | 224 => 57 | 225 => 58 | 217 => 43 | 266 => 55 | n => n, fun | 9 => 9 | 21 => 21 | 3 => 3 | 4 => 4 | 5 => 5 | 0 => 0 | 46 => 52 | n => n, fun | n => n⟩
theorem Tryd.lays152 : Go.Proofs.Lays.n152 Tryd.prog Tryd.lays152_ren := {
  mixed := by kernel_rfl
  f119 := Tryd.func56.trans (congrArg some (by kernel_rfl))
  f137 := Tryd.func31.trans (congrArg some (by kernel_rfl))
  f152 := Tryd.func44.trans (congrArg some (by kernel_rfl))
  f217 := Tryd.func43.trans (congrArg some (by kernel_rfl))
  f224 := Tryd.func57.trans (congrArg some (by kernel_rfl))
  f225 := Tryd.func58.trans (congrArg some (by kernel_rfl))
  f266 := Tryd.func55.trans (congrArg some (by kernel_rfl))
  t0 := Tryd.underlying0
  a0 := Tryd.isAgg0
  z0 := Tryd.sizeOf0
  v0 := Tryd.zeroValue0
  t3 := Tryd.underlying3
  a3 := Tryd.isAgg3
  z3 := Tryd.sizeOf3
  v3 := Tryd.zeroValue3
  t4 := Tryd.underlying4
  a4 := Tryd.isAgg4
  z4 := Tryd.sizeOf4
  v4 := Tryd.zeroValue4
  t5 := Tryd.underlying5
  a5 := Tryd.isAgg5
  z5 := Tryd.sizeOf5
  v5 := Tryd.zeroValue5
  t9 := Tryd.underlying9
  a9 := Tryd.isAgg9
  z9 := Tryd.sizeOf9
  v9 := Tryd.zeroValue9
  t21 := Tryd.underlying21
  a21 := Tryd.isAgg21
  z21 := Tryd.sizeOf21
  v21 := Tryd.zeroValue21
  t46 := Tryd.underlying52
  a46 := Tryd.isAgg52
  z46 := Tryd.sizeOf52
  v46 := Tryd.zeroValue52 }
open Go.RowKit Go.Lib in
theorem Tryd.strings_IndexRune_ascii (s : ByteArray) (r : Int) (w : World) (h0 : 0 ≤ r) (h1 : r < 128) :
    Calls Tryd.prog 44 #[.string s, .int .i32 r] w fun e w' => e = .returned (.int .i64 (Lib.indexByte s.data.toList r.toNat.toUInt8)) ∧ w' = w := Any.strings_IndexRune_ascii Tryd.lays152 s r w h0 h1
def Tryd.lays226_ren : Go.Shelf.Ren := ⟨fun | 226 => 45 | n => n, fun | 3 => 3 | 4 => 4 | n => n, fun | n => n⟩
theorem Tryd.lays226 : Go.Proofs.Lays.n226 Tryd.prog Tryd.lays226_ren := {
  mixed := by kernel_rfl
  f226 := Tryd.func45.trans (congrArg some (by kernel_rfl))
  t3 := Tryd.underlying3
  a3 := Tryd.isAgg3
  z3 := Tryd.sizeOf3
  v3 := Tryd.zeroValue3
  t4 := Tryd.underlying4
  a4 := Tryd.isAgg4
  z4 := Tryd.sizeOf4
  v4 := Tryd.zeroValue4 }
open Go.RowKit Go.Lib in
theorem Tryd.strings_shouldUseASCIISet (n : Int) (w : World) :
    Calls Tryd.prog 45 #[.int .i64 n] w fun e w' => e = .returned (.bool (decide (8 < n))) ∧ w' = w := Any.strings_shouldUseASCIISet Tryd.lays226 n w
def Tryd.lays153_ren : Go.Shelf.Ren := ⟨fun | 153 => 33 | 152 => 44 | 226 => 45 | 227 => 46 | 228 => 47 | 137 => 31 | 119 => 56 | 224 => 57 | 225 => 58 | 217 => 43 | 266 => 55 | n => n, fun | 9 => 9 | 3 => 3 | 4 => 4 | 5 => 5 | 21 => 21 | 117 => 62 | 116 => 61 | 0 => 0 | 46 => 52 | 124 => 74 | n => n, fun | n => n⟩
theorem Tryd.lays153 : Go.Proofs.Lays.n153 Tryd.prog Tryd.lays153_ren := {
  mixed := by kernel_rfl
  f119 := Tryd.func56.trans (congrArg some (by kernel_rfl))
  f137 := Tryd.func31.trans (congrArg some (by kernel_rfl))
  f152 := Tryd.func44.trans (congrArg some (by kernel_rfl))
  f153 := Tryd.func33.trans (congrArg some (by kernel_rfl))
  f217 := Tryd.func43.trans (congrArg some (by kernel_rfl))
  f224 := Tryd.func57.trans (congrArg some (by kernel_rfl))
  f225 := Tryd.func58.trans (congrArg some (by kernel_rfl))
  f226 := Tryd.func45.trans (congrArg some (by kernel_rfl))
  f227 := Tryd.func46.trans (congrArg some (by kernel_rfl))
  f228 := Tryd.func47.trans (congrArg some (by kernel_rfl))
  f266 := Tryd.func55.trans (congrArg some (by kernel_rfl))
  t0 := Tryd.underlying0
  a0 := Tryd.isAgg0
  z0 := Tryd.sizeOf0
  v0 := Tryd.zeroValue0
  t3 := Tryd.underlying3
  a3 := Tryd.isAgg3
  z3 := Tryd.sizeOf3
  v3 := Tryd.zeroValue3
  t4 := Tryd.underlying4
  a4 := Tryd.isAgg4
  z4 := Tryd.sizeOf4
  v4 := Tryd.zeroValue4
  t5 := Tryd.underlying5
  a5 := Tryd.isAgg5
  z5 := Tryd.sizeOf5
  v5 := Tryd.zeroValue5
  t9 := Tryd.underlying9
  a9 := Tryd.isAgg9
  z9 := Tryd.sizeOf9
  v9 := Tryd.zeroValue9
  t21 := Tryd.underlying21
  a21 := Tryd.isAgg21
  z21 := Tryd.sizeOf21
  v21 := Tryd.zeroValue21
  t46 := Tryd.underlying52
  a46 := Tryd.isAgg52
  z46 := Tryd.sizeOf52
  v46 := Tryd.zeroValue52
  t116 := Tryd.underlying61
  a116 := Tryd.isAgg61
  z116 := Tryd.sizeOf61
  t117 := Tryd.underlying62
  a117 := Tryd.isAgg62
  z117 := Tryd.sizeOf62
  v117 := Tryd.zeroValue62
  t124 := Tryd.underlying74
  a124 := Tryd.isAgg74
  z124 := Tryd.sizeOf74
  v124 := Tryd.zeroValue74 }
open Go.RowKit Go.Lib in
theorem Tryd.strings_IndexAny_long (hv116 : ∀ w, (zeroValue 61).run Tryd.prog w = .ok (.agg (Array.replicate 256 (.bool false))) w) (s chars : ByteArray) (w : World) (h2 : 2 ≤ chars.size) (h8 : 8 < s.size) (hs : s.size < 4294967281) (hcs : chars.size < 4294967281) (hascii : ∀ (j : Nat) b, chars.data.toList[j]? = some b → b.toNat < 128) :
    Calls Tryd.prog 33 #[.string s, .string chars] w fun e w' => e = .returned (.int .i64 (Lib.indexAny s.data.toList chars.data.toList)) ∧ w' = ((w.alloc (.cells (Lib.setCells chars.data.toList) 61)).alloc (.cells (Lib.setCells chars.data.toList) 61)) := Any.strings_IndexAny_long Tryd.lays153 hv116 (by kernel_rfl) s chars w h2 h8 hs hcs hascii
end Go.Proofs.YtakojeefilpibaaDoor
namespace Go.Proofs.YtakojeefilpibaaDoor
set_option linter.all false
open Go.RowKit
open Go.Lib (index hasPrefix trimPrefix cut indexAny)
theorem of_bs (s : ByteArray) : (⟨s.data.toList.toArray⟩ : ByteArray) = s := by cases s; rfl
theorem Vl.tup2 {w : World} {S : Nat → Prop} {ρ : Rho} {x y : AV} {u v : Value} (h : Vl1 w S ρ x u) (k : Vl1 w S ρ y v) : Vl w S ρ (.tup [x, y]) (.tuple #[u, v]) :=
  ⟨[u, v], rfl, rfl, fun i hi => by
    match i, hi with
    | 0, _ => exact h
    | 1, _ => exact k⟩
theorem Vl.tup3 {w : World} {S : Nat → Prop} {ρ : Rho} {x y z : AV} {u v t : Value} (h : Vl1 w S ρ x u) (k : Vl1 w S ρ y v) (m : Vl1 w S ρ z t) : Vl w S ρ (.tup [x, y, z]) (.tuple #[u, v, t]) :=
  ⟨[u, v, t], rfl, rfl, fun i hi => by
    match i, hi with
    | 0, _ => exact h
    | 1, _ => exact k
    | 2, _ => exact m⟩
def unS : AV → List UInt8
  | .str l => l
  | _ => []
theorem unS_map (ps : List (List UInt8)) : (ps.map AV.str).map unS = ps := by rw [List.map_map]; simp [unS, Function.comp_def]
end Go.Proofs.YtakojeefilpibaaDoor
namespace Go.Proofs.YtakojeefilpibaaDoor
set_option linter.all false
open Go.RowKit
open Go.Lib (index hasPrefix trimPrefix cut indexAny)
end Go.Proofs.YtakojeefilpibaaDoor
namespace Go.Proofs.YtakojeefilpibaaDoor
set_option linter.all false
open Go.RowKit
open Go.Lib (index hasPrefix trimPrefix cut indexAny)
def cutPreS : Spec := fun xs hp => match xs, hp with
  | [.str s, .str p], [] => some ⟨.tup [.str (trimPrefix s p), .bool (hasPrefix s p)], [], True⟩
  | _, _ => none
theorem cutPre_ok : FnOk Tryd.prog 13 cutPreS := by
  refine fnok_of_calls fun xs0 hp r hs hp' => ?_
  unfold cutPreS at hs
  split at hs
  · rename_i s p
    injection hs with hs; subst hs
    refine ⟨rfl, rfl, fun w S ρ args hS ha => ?_⟩
    obtain ⟨v, vs, rfl, hv, hr⟩ := ha.get _ _ rfl
    obtain ⟨u, us, rfl, hu, hr⟩ := hr.get _ _ rfl
    obtain rfl := hr.none
    rw [hv.str, hu.str]
    refine (Tryd.strings_CutPrefix ⟨s.toArray⟩ ⟨p.toArray⟩ w).mono ?_
    rintro e w' ⟨rfl, rfl⟩
    exact ⟨_, rfl, Below.refl _ _, fun _ _ _ => Vl.tup2 (Vl.str' _) (Vl.bool' _)⟩
  · cases hs
end Go.Proofs.YtakojeefilpibaaDoor
namespace Go.Proofs.YtakojeefilpibaaDoor
set_option linter.all false
open Go.RowKit
open Go.Lib (index hasPrefix trimPrefix cut indexAny)
theorem maxLen_cell {w : World} {S : Nat → Prop} (h : GlobOk w S) : ∃ m, w.cell? ⟨0, 0, none⟩ = some (.int .i64 m) := (h.2 0 (by kernel_rfl)).2
def cutS : Spec := fun xs hp => match xs, hp with
  | [.str s, .str p], [] => some ⟨.tup [.str (cut s p).1, .str (cut s p).2.1, .bool (cut s p).2.2], [], s.length < 4294967281⟩
  | _, _ => none
theorem cut_ok : FnOk Tryd.prog 25 cutS := by
  refine fnok_of_calls fun xs0 hp r hs hp' => ?_
  unfold cutS at hs
  split at hs
  · rename_i s p
    injection hs with hs; subst hs
    refine ⟨rfl, rfl, fun w S ρ args hS ha => ?_⟩
    obtain ⟨m, hm⟩ := maxLen_cell ha.glob
    obtain ⟨v, vs, rfl, hv, hr⟩ := ha.get _ _ rfl
    obtain ⟨u, us, rfl, hu, hr⟩ := hr.get _ _ rfl
    obtain rfl := hr.none
    rw [hv.str, hu.str]
    refine (Tryd.strings_Cut ⟨s.toArray⟩ ⟨p.toArray⟩ m w (by rw [Lib.size_eq]; exact hp') hm).mono ?_
    rintro e w' ⟨rfl, n, rfl⟩
    exact ⟨_, rfl, belowN (Below.refl _ _) n, fun _ _ _ => Vl.tup3 (Vl.str' _) (Vl.str' _) (Vl.bool' _)⟩
  · cases hs
end Go.Proofs.YtakojeefilpibaaDoor
