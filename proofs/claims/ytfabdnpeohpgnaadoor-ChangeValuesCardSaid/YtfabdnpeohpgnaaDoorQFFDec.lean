import Derived.Test.YtfabdnpeohpgnaaDoorQShelf
import Derived.Test.YtfabdnpeohpgnaaDoorQMem
import Derived.Lib.Bytealg
import Derived.KernelRfl
import Derived.Test.YtfabdnpeohpgnaaDoorProg
import Derived.Laws.BitsAll
import Derived.BigQuiet
import Derived.Deep.QuietTactic
import Derived.BigRegion
import Derived.Deep.RegionHeld3
import Derived.StillTailTactics
import Derived.Test.YtfabdnpeohpgnaaDoorQAMS
import Derived.Lib.IndexLaws
import Derived.Lib.SplitLaws
import Derived.Lib.IndexAny
import Derived.Lib.IndexMore
import Derived.Lib.IndexBytes
import Derived.Lib.CountLaws
import Derived.Lib.Replace
namespace Go.Proofs.YtfabdnpeohpgnaaDoor
set_option linter.all false
open Go.RowKit
open Go.Lib (decDigits itoa atoiAll)
noncomputable def decB : List UInt8 → Bool := sealF fun s => (decV s).isSome
noncomputable def decN : List UInt8 → Nat := sealF fun s => (decV s).getD 0
theorem decBN_some {s : List UInt8} {n : Nat} (h : decV s = some n) : decB s = true ∧ decN s = n := by
  unfold decB decN; rw [sealF_eq, sealF_eq]; simp only [h]; exact ⟨rfl, rfl⟩
theorem decB_none {s : List UInt8} (h : decV s = none) : decB s = false := by
  unfold decB; rw [sealF_eq]; simp only [h]; rfl
theorem decB_f {s : List UInt8} (h : decB s = false) : decV s = none := by
  cases h' : decV s with
  | none => rfl
  | some n => rw [(decBN_some h').1] at h; cases h
theorem decB_t {s : List UInt8} (h : decB s = true) : decV s = some (decN s) := by
  cases h' : decV s with
  | none => rw [decB_none h'] at h; cases h
  | some n => rw [(decBN_some h').2]
theorem decB_no {s : List UInt8} (h : ∀ v, atoiAll s ≠ .ok v) : decB s = false := by
  apply decB_none; unfold decV; split
  · rename_i v e; exact absurd e (h v)
  · rfl
theorem decB_ok1 {s : List UInt8} {v : Int} (h : atoiAll s = .ok v) (h0 : okN v = true) (h1 : itoa v = s) : decB s = true ∧ (decN s : Int) = v := by
  obtain ⟨k1, k2⟩ := okN_t h0
  have e : decV s = some v.toNat := by unfold decV; rw [h]; exact if_pos ⟨k1, k2, h1⟩
  obtain ⟨a, b⟩ := decBN_some e
  exact ⟨a, by omega⟩
theorem decB_ok0 {s : List UInt8} {v : Int} (h : atoiAll s = .ok v) (h1 : okN v = false ∨ itoa v ≠ s) : decB s = false := by
  apply decB_none; unfold decV; rw [h]
  refine if_neg ?_
  rintro ⟨a, b, c⟩
  rcases h1 with h1 | h1
  · rw [okN_mk a b] at h1; cases h1
  · exact h1 c
def c_fdec : ACode := (.seq (.reg none [⟨(some 2), (.mv (.c (.int .i64 0))), none⟩, ⟨(some 3), (.mv (.c (.int .i64 0))), none⟩]) (.seq (.reg none [⟨(some 7), (.mv (.t 0)), none⟩, ⟨(some 8), (.call 47 [(.t 7)]), none⟩, ⟨(some 6), (.mv (.t 8)), none⟩, ⟨(some 9), (.ext (.t 6) 0), none⟩, ⟨(some 10), (.ext (.t 6) 1), none⟩, ⟨(some 4), (.mv (.t 9)), none⟩, ⟨(some 5), (.mv (.t 10)), none⟩]) (.seq (.seq (.reg none [⟨(some 11), (.mv (.t 5)), none⟩, ⟨(some 12), (.nilc 0 true (.t 11)), none⟩, ⟨(some 13), (.mv (.t 12)), none⟩, ⟨(some 14), (.mv (.t 4)), (some (13, false))⟩, ⟨(some 15), (.call 48 [(.t 14)]), (some (13, false))⟩, ⟨(some 16), (.un .not (.t 15)), (some (13, false))⟩, ⟨(some 17), (.pick (.t 13) (.c (.bool true)) (.t 16)), none⟩, ⟨(some 18), (.mv (.t 17)), none⟩, ⟨(some 19), (.mv (.t 4)), (some (18, false))⟩, ⟨(some 20), (.call 26 [(.t 19)]), (some (18, false))⟩, ⟨(some 21), (.mv (.t 0)), (some (18, false))⟩, ⟨(some 22), (.bin .neq (.t 20) (.t 21)), (some (18, false))⟩, ⟨(some 23), (.pick (.t 18) (.c (.bool true)) (.t 22)), none⟩]) (.cond (.t 23) (.seq (.reg none [⟨(some 2), (.mv (.c (.int .i64 0))), none⟩, ⟨(some 3), (.mv (.c (.int .i64 4))), none⟩]) .ret) .skip)) (.seq (.reg none [⟨(some 24), (.mv (.t 4)), none⟩, ⟨(some 2), (.mv (.t 24)), none⟩, ⟨(some 3), (.mv (.c (.int .i64 0))), none⟩]) .ret))))
def r_fdec : List ARes := [(.t 2), (.t 3)]
theorem s_fdec : slimF Tryd.prog Tryd.f34 = some (c_fdec, r_fdec) := by kernel_rfl
noncomputable def fdecS : Spec := fun xs hp => match xs, hp with
  | [.str s], [] => if decB s = true then some ⟨.tup [.int .i64 (decN s : Int), .int .i64 0], [], s.length ≤ 281474976710656⟩ else some ⟨.tup [.int .i64 0, .int .i64 4], [], s.length ≤ 281474976710656⟩
  | _, _ => none
theorem fdec_ok : FnOk Tryd.prog 34 fdecS := by
  refine fn_slim2 Tryd.func34 s_fdec (Φ := phiL [(47, [], atoiS), (48, [], rightS), (26, [], itoaS)]) (phi_cons atoi_ok (by kernel_rfl) (phi_cons right_ok (by kernel_rfl) (phi_cons itoa_ok (by kernel_rfl) phi_nil))) ?_
  intro xs hp r hs hp'
  unfold fdecS at hs
  split at hs
  · rename_i s
    refine ⟨len_le (by kernel_rfl), ?_⟩
    rcases h : atoiAll s with v | _ | _
    · cases ho : okN v with
      | true =>
        obtain ⟨k1, k2⟩ := okN_t ho
        have hin : inI v := by (first | omega | (simp only [lenOk, bytesOk, inI, IntKind.bits, List.length_append, Bs_len, List.length_cons, List.length_nil, List.length_map, List.length_take, List.length_drop, List.length_replicate]; omega))
        by_cases hi : itoa v = s
        · obtain ⟨e1, e2⟩ := decB_ok1 h ho hi
          rw [if_pos e1] at hs; injection hs with hs; subst hs
          have d1 : decide (itoa v = s) = true := decide_eq_true hi
          simp only [c_fdec, r_fdec, atoiS, rightS, itoaS, atoiR, h, ho, e2, d1, go_sem, Nat.reduceDiv, Nat.reduceMod, ↓reduceIte, Nat.reduceEqDiff, Nat.reduceBEq, Nat.reduceSub, Nat.reduceLT, Nat.reduceAdd, Nat.reduceLeDiff, reduceCtorEq, Int.reduceEq, Int.reduceNe, Int.reduceLT, Int.reduceLE, Int.reduceToNat]
          exact ⟨hp', hin⟩
        · have e1 := decB_ok0 h (.inr hi)
          rw [if_neg (by rw [e1]; simp)] at hs; injection hs with hs; subst hs
          have d1 : decide (itoa v = s) = false := decide_eq_false hi
          simp only [c_fdec, r_fdec, atoiS, rightS, itoaS, atoiR, h, ho, d1, go_sem, Nat.reduceDiv, Nat.reduceMod, ↓reduceIte, Nat.reduceEqDiff, Nat.reduceBEq, Nat.reduceSub, Nat.reduceLT, Nat.reduceAdd, Nat.reduceLeDiff, reduceCtorEq, Int.reduceEq, Int.reduceNe, Int.reduceLT, Int.reduceLE, Int.reduceToNat]
          exact ⟨hp', hin⟩
      | false =>
        have e1 := decB_ok0 h (.inl ho)
        rw [if_neg (by rw [e1]; simp)] at hs; injection hs with hs; subst hs
        simp only [c_fdec, r_fdec, atoiS, rightS, itoaS, atoiR, h, ho, go_sem, Nat.reduceDiv, Nat.reduceMod, ↓reduceIte, Nat.reduceEqDiff, Nat.reduceBEq, Nat.reduceSub, Nat.reduceLT, Nat.reduceAdd, Nat.reduceLeDiff, reduceCtorEq, Int.reduceEq, Int.reduceNe, Int.reduceLT, Int.reduceLE, Int.reduceToNat]
        exact hp'
    · have e1 := decB_no (s := s) (by intro v; rw [h]; simp)
      rw [if_neg (by rw [e1]; simp)] at hs; injection hs with hs; subst hs
      simp only [c_fdec, r_fdec, atoiS, rightS, itoaS, atoiR, h, go_sem, Nat.reduceDiv, Nat.reduceMod, ↓reduceIte, Nat.reduceEqDiff, Nat.reduceBEq, Nat.reduceSub, Nat.reduceLT, Nat.reduceAdd, Nat.reduceLeDiff, reduceCtorEq, Int.reduceEq, Int.reduceNe, Int.reduceLT, Int.reduceLE, Int.reduceToNat]
      exact hp'
    · have e1 := decB_no (s := s) (by intro v; rw [h]; simp)
      rw [if_neg (by rw [e1]; simp)] at hs; injection hs with hs; subst hs
      simp only [c_fdec, r_fdec, atoiS, rightS, itoaS, atoiR, h, go_sem, Nat.reduceDiv, Nat.reduceMod, ↓reduceIte, Nat.reduceEqDiff, Nat.reduceBEq, Nat.reduceSub, Nat.reduceLT, Nat.reduceAdd, Nat.reduceLeDiff, reduceCtorEq, Int.reduceEq, Int.reduceNe, Int.reduceLT, Int.reduceLE, Int.reduceToNat]
      exact hp'
  · cases hs
end Go.Proofs.YtfabdnpeohpgnaaDoor
namespace Go.Proofs.YtfabdnpeohpgnaaDoor
set_option linter.all false
open Go.RowKit
open Go.Lib (itoa decDigits)
theorem decN_f {s : List UInt8} (h : decV s = none) : decN s = 0 := by
  unfold decN; rw [sealF_eq]; simp only [h]; rfl
theorem dec_dig (n : Nat) : ∀ x ∈ decDigits n, 48 ≤ x.toNat ∧ x.toNat ≤ 57 := by
  induction n using Nat.strongRecOn with
  | _ n ih =>
    intro x hx
    by_cases h : n < 10
    · rw [decD_small h, List.mem_singleton] at hx
      subst hx; rw [dc_toNat h]; omega
    · rw [decD_big (by omega), List.mem_append, List.mem_singleton] at hx
      rcases hx with hx | rfl
      · exact ih (n / 10) (by omega) x hx
      · rw [dc_toNat (by omega)]; omega
theorem dec_no (n : Nat) (c : UInt8) (h : c.toNat < 48) : c ∉ decDigits n := fun hm => by have := (dec_dig n c hm).1; omega
theorem itoa_dec {t : Int} (h : 0 ≤ t) : itoa t = decDigits t.toNat := by
  obtain ⟨n, rfl⟩ := Int.eq_ofNat_of_zero_le h
  rw [itoa_nat]; rfl
theorem decB_itoa {t : Int} (h0 : 0 ≤ t) (h1 : t < 4611686018427387904) : decB (itoa t) = true ∧ (decN (itoa t) : Int) = t := by
  rw [itoa_dec h0]
  obtain ⟨a, b⟩ := decBN_some (decV_dec t.toNat (by omega))
  exact ⟨a, by rw [b]; omega⟩
theorem itoa_decN {s : List UInt8} (h : decB s = true) : itoa (decN s : Int) = s := by
  rw [itoa_nat]; exact (decV_some (decB_t h)).1.symm
theorem decN_lt (s : List UInt8) : decN s < 4611686018427387904 := by
  cases h : decB s with
  | true => exact (decV_some (decB_t h)).2
  | false => rw [decN_f (decB_f h)]; omega
theorem decB_nil : decB [] = false := by
  cases h : decB [] with
  | false => rfl
  | true =>
    have := itoa_decN h
    rw [itoa_nat] at this
    have hl := dec_dig (decN [])
    cases hd : decDigits (decN []) with
    | nil =>
      by_cases hn : decN [] < 10
      · rw [decD_small hn] at hd; cases hd
      · rw [decD_big (by omega)] at hd; simp at hd
    | cons x l => rw [hd] at this; cases this
noncomputable def nmV (s : List UInt8) : Int := if s.head? = some 45 then -(decN (s.drop 1) : Int) else (decN s : Int)
noncomputable def nmB (s : List UInt8) : Bool := if s.head? = some 45 then decB (s.drop 1) && !decide (decN (s.drop 1) = 0) else decB s
theorem nmB_nil : nmB [] = false := by unfold nmB; rw [if_neg (by simp), decB_nil]
theorem dec_head (n : Nat) : (decDigits n).head? ≠ some 45 := by
  intro h
  cases hd : decDigits n with
  | nil => rw [hd] at h; cases h
  | cons x l =>
    rw [hd] at h; injection h with h
    have := dec_dig n x (by rw [hd]; exact List.mem_cons_self ..)
    rw [h] at this; exact absurd this.1 (by decide)
theorem nm_itoa {z : Int} (h0 : -4611686018427387904 < z) (h1 : z < 4611686018427387904) : nmB (itoa z) = true ∧ nmV (itoa z) = z := by
  by_cases hz : z < 0
  · have e : itoa z = 45 :: decDigits z.natAbs := by unfold itoa; rw [if_pos hz]
    have e2 : itoa (z.natAbs : Int) = decDigits z.natAbs := by rw [itoa_nat]
    obtain ⟨a, b⟩ := decB_itoa (t := (z.natAbs : Int)) (by omega) (by omega)
    rw [e2] at a b
    unfold nmB nmV
    have hh : (45 :: decDigits z.natAbs).head? = some 45 := rfl
    rw [e, if_pos hh, if_pos hh, List.drop_succ_cons, List.drop_zero, a]
    refine ⟨?_, by omega⟩
    rw [decide_eq_false (by omega)]; rfl
  · obtain ⟨a, b⟩ := decB_itoa (t := z) (by omega) h1
    have hh : (itoa z).head? ≠ some 45 := by rw [itoa_dec (by omega)]; exact dec_head _
    unfold nmB nmV
    rw [if_neg hh, if_neg hh]
    exact ⟨a, b⟩
theorem itoa_nm {s : List UInt8} (h : nmB s = true) : itoa (nmV s) = s := by
  unfold nmB at h
  unfold nmV
  by_cases hh : s.head? = some 45
  · rw [if_pos hh] at h ⊢
    simp only [Bool.and_eq_true, Bool.not_eq_true', decide_eq_false_iff_not] at h
    obtain ⟨h1, h2⟩ := h
    cases s with
    | nil => cases hh
    | cons c t =>
      injection hh with hh; subst hh
      rw [List.drop_succ_cons, List.drop_zero] at h1 h2 ⊢
      have e := itoa_decN h1
      rw [itoa_nat] at e
      unfold itoa
      rw [if_pos (by omega), show (-(decN t : Int)).natAbs = decN t by omega, e]
  · rw [if_neg hh] at h ⊢
    exact itoa_decN h
theorem itoa_no (z : Int) (c : UInt8) (h : c.toNat < 48) (h2 : c ≠ 45) : c ∉ itoa z := by
  unfold itoa
  split
  · rw [List.mem_cons, not_or]; exact ⟨h2, dec_no _ _ h⟩
  · exact dec_no _ _ h
end Go.Proofs.YtfabdnpeohpgnaaDoor
namespace Go.Proofs.YtfabdnpeohpgnaaDoor
set_option linter.all false
open Go.RowKit
def be : Nat → Nat → List UInt8
  | 0, _ => []
  | k + 1, n => byteOf ((n / 256 ^ k % 256 : Nat) : Int) :: be k n
structure Hk where
  fr : Nat
  tt : Nat
  b : List UInt8
structure HRec where
  f : Int
  t : Int
  A : Option Addr
  c : Nat
  b : List UInt8
def HRec.cells (h : HRec) : List Value := [.int .i64 h.f, .int .i64 h.t, .slice h.A h.b.length h.c]
def hcells (hs : List HRec) : List Value := hs.flatMap HRec.cells
theorem hcells_len (hs : List HRec) : (hcells hs).length = hs.length * 3 := by
  induction hs with
  | nil => rfl
  | cons h hs ih => simp only [hcells, List.flatMap_cons, List.length_append] at ih ⊢; rw [ih]; simp [HRec.cells]; omega
theorem hcells_get (hs : List HRec) (i k : Nat) (hi : i < hs.length) (hk : k < 3) : (hcells hs)[i * 3 + k]? = hs[i].cells[k]? := by
  induction hs generalizing i with
  | nil => simp at hi
  | cons h hs ih =>
    have hl : h.cells.length = 3 := rfl
    show (h.cells ++ hcells hs)[i * 3 + k]? = _
    cases i with
    | zero => rw [List.getElem?_append_left (by omega)]; simp
    | succ i =>
      rw [List.getElem?_append_right (by omega), hl, show (i + 1) * 3 + k - 3 = i * 3 + k by omega, ih i (by simpa using hi)]
      rfl
def RdH (w : World) (A : Option Addr) (hs : List HRec) : Prop := RdR w A (hcells hs) ∧ ∀ h ∈ hs, Rd w h.A h.b
theorem RdH.at_ {w : World} {A : Option Addr} {hs : List HRec} (h : RdH w A hs) (hl : 0 < hs.length) : ∃ b o, A = some ⟨b, o, none⟩ ∧ b < w.heap.size ∧
    ∀ i (hi : i < hs.length), w.cell? ⟨b, o + i * 3, none⟩ = some (.int .i64 hs[i].f) ∧ w.cell? ⟨b, o + i * 3 + 1, none⟩ = some (.int .i64 hs[i].t) ∧ w.cell? ⟨b, o + i * 3 + 2, none⟩ = some (.slice hs[i].A hs[i].b.length hs[i].c) := by
  obtain ⟨b, o, e, hb, hc⟩ := h.1.at_ (by rw [hcells_len]; omega)
  refine ⟨b, o, e, hb, fun i hi => ⟨?_, ?_, ?_⟩⟩
  · exact hc (i * 3) _ (by have := hcells_get hs i 0 hi (by omega); simpa [HRec.cells] using this)
  · rw [Nat.add_assoc]; exact hc (i * 3 + 1) _ (by rw [hcells_get hs i 1 hi (by omega)]; rfl)
  · rw [Nat.add_assoc]; exact hc (i * 3 + 2) _ (by rw [hcells_get hs i 2 hi (by omega)]; rfl)
theorem RdH.ext {w w' : World} {A : Option Addr} {hs : List HRec} (h : RdH w A hs) (hb : Below w.heap.size w w') : RdH w' A hs := ⟨h.1.ext hb, fun x hx => (h.2 x hx).ext hb⟩
def u64 (x : Int) : Nat := (x % 18446744073709551616).toNat
structure HkV where
  err : Bool
  fr : Nat
  tt : Nat
  A : Option Addr
  c : Nat
  b : List UInt8
def HkV.el (x : HkV) : Option Hk := if x.err then none else some ⟨x.fr, x.tt, x.b⟩
def Valid (n : Nat) : Nat → List HkV → Prop
  | k, [] => k ≤ n
  | k, h :: r => k ≤ h.fr ∧ h.fr ≤ h.tt ∧ h.tt ≤ n ∧ Valid n h.tt r
theorem Valid.at_ {n : Nat} : ∀ {hs : List HkV} {k : Nat}, Valid n k hs → ∀ i (hi : i < hs.length), hs[i].fr ≤ hs[i].tt ∧ hs[i].tt ≤ n ∧ Valid n hs[i].tt (hs.drop (i + 1))
  | [], _, _, _, hi => absurd hi (by simp)
  | h :: r, _, hv, 0, _ => ⟨hv.2.1, hv.2.2.1, hv.2.2.2⟩
  | h :: r, _, hv, i + 1, hi => Valid.at_ hv.2.2.2 i (by simpa using hi)
theorem Valid.all {n : Nat} {hs : List HkV} : ∀ {k : Nat}, Valid n k hs → ∀ h ∈ hs, h.fr ≤ h.tt := by
  induction hs with
  | nil => intro k _ h hh; cases hh
  | cons x r ih =>
    intro k hv h hh
    rcases List.mem_cons.1 hh with rfl | hh
    · exact hv.2.1
    · exact ih hv.2.2.2 h hh
end Go.Proofs.YtfabdnpeohpgnaaDoor
namespace Go.Proofs.YtfabdnpeohpgnaaDoor
set_option linter.all false
open Go.RowKit
def rot : Nat → Nat → Nat
  | x, 0 => x
  | x, n + 1 => 2 * rot x n % 4294967296 + 2 * rot x n / 4294967296
structure ShSt where
  a : Nat
  b : Nat
  c : Nat
  d : Nat
  e : Nat
def ShSt.ok (s : ShSt) : Prop := s.a < 4294967296 ∧ s.b < 4294967296 ∧ s.c < 4294967296 ∧ s.d < 4294967296 ∧ s.e < 4294967296
def nextW (L : List Nat) (i : Nat) : Nat := rot (L.getD (i - 3) 0 ^^^ L.getD (i - 8) 0 ^^^ L.getD (i - 14) 0 ^^^ L.getD (i - 16) 0) 1
def ext : Nat → List Nat → List Nat
  | 0, L => L
  | n + 1, L => ext n (L ++ [nextW L L.length])
def ShSt.bytes (s : ShSt) : List UInt8 := be 4 s.a ++ be 4 s.b ++ be 4 s.c ++ be 4 s.d ++ be 4 s.e
def allLt (L : List Nat) : Prop := ∀ x ∈ L, x < 4294967296
theorem allLt.getD {L : List Nat} (h : allLt L) (i : Nat) : L.getD i 0 < 4294967296 := by
  rw [List.getD_eq_getElem?_getD]
  rcases Nat.lt_or_ge i L.length with h1 | h1
  · rw [List.getElem?_eq_getElem h1]; exact h _ (List.getElem_mem h1)
  · rw [List.getElem?_eq_none h1]; simp
attribute [irreducible] ext nextW rot
end Go.Proofs.YtfabdnpeohpgnaaDoor
namespace Go.Proofs.YtfabdnpeohpgnaaDoor
set_option linter.all false
def digs : List UInt8 := [48, 49, 50, 51, 52, 53, 54, 55, 56, 57, 97, 98, 99, 100, 101, 102]
def hexL : List UInt8 → List UInt8
  | [] => []
  | b :: l => digs.getD (b.toNat / 16) 0 :: digs.getD (b.toNat % 16) 0 :: hexL l
theorem hexL_length : ∀ l, (hexL l).length = 2 * l.length
  | [] => rfl
  | b :: l => by simp [hexL, hexL_length l]; omega
theorem hexL_append : ∀ l m, hexL (l ++ m) = hexL l ++ hexL m
  | [], m => rfl
  | b :: l, m => by simp [hexL, hexL_append l m]
end Go.Proofs.YtfabdnpeohpgnaaDoor

namespace Go.Proofs.YtfabdnpeohpgnaaDoor
set_option linter.all false
open Go.RowKit
theorem wpList_stop_load {P : Program} {ops : Array Oper} {Q : Exit → Act → World → Prop} {a : Act} {w : World} {rest : List Oper} {o : Oper} {ty : TypeId} {x : Operand} (_ho : o.op = .load ty x) (h : Stop (wpList P ops Q (o :: rest) a w)) : wpList P ops Q (o :: rest) a w := h
theorem info20 : (Tryd.prog.info? 28).map (fun i => i.size) = some 20 := by kernel_rfl
def z20 : Array Value := (List.replicate 20 (Value.int .u8 0)).toArray
theorem zero20 (w : World) : (zeroValue 28).run Tryd.prog w = .ok (.agg z20) w := by
  unfold z20; kernel_rfl
end Go.Proofs.YtfabdnpeohpgnaaDoor
namespace Go.Proofs.YtfabdnpeohpgnaaDoor
set_option linter.all false
open Go.RowKit
theorem index20 (l : List UInt8) (j : Nat) (hl : l.length = 20) (hj : j < 20) (w : World) : (Instr.index 28 (.agg (l.map U).toArray) (.int .i64 (j : Int))).run Tryd.prog w = .ok (U (l.getD j 0)) w := by
  have h1 : (l.map U).toArray[j]? = some (U (l.getD j 0)) := by
    simp [List.getElem?_eq_getElem (show j < l.length by omega)]
  have e : (l.map U).toArray.size = 20 := by simp; omega
  have hz : (0 : Int) ≤ (j : Int) := by omega
  have hw : IntKind.i64.wrap (j : Int) = j := IntWalk.i64_in _ (by omega)
  have hj2 : (j : Int) < 20 := by omega
  simp [go_sem, Instr.index, h1, e, run_underlying Tryd.underlying28, hw, hz, hj2]
  rw [if_pos hj, List.getElem?_eq_getElem (show j < l.length by omega)]
  rfl
def digS : ByteArray := ⟨#[48, 49, 50, 51, 52, 53, 54, 55, 56, 57, 97, 98, 99, 100, 101, 102]⟩
theorem indexDig (k : Nat) (hk : k < 16) (w : World) : (Instr.index 9 (.string digS) (.int .u8 (k : Int))).run Tryd.prog w = .ok (.int .u8 ((digs.getD k 0).toNat : Int)) w := by
  match k, hk with
  | 0, _ => exact (run_index_string w 9 digS .u8 _ Tryd.underlying9).trans rfl
  | 1, _ => exact (run_index_string w 9 digS .u8 _ Tryd.underlying9).trans rfl
  | 2, _ => exact (run_index_string w 9 digS .u8 _ Tryd.underlying9).trans rfl
  | 3, _ => exact (run_index_string w 9 digS .u8 _ Tryd.underlying9).trans rfl
  | 4, _ => exact (run_index_string w 9 digS .u8 _ Tryd.underlying9).trans rfl
  | 5, _ => exact (run_index_string w 9 digS .u8 _ Tryd.underlying9).trans rfl
  | 6, _ => exact (run_index_string w 9 digS .u8 _ Tryd.underlying9).trans rfl
  | 7, _ => exact (run_index_string w 9 digS .u8 _ Tryd.underlying9).trans rfl
  | 8, _ => exact (run_index_string w 9 digS .u8 _ Tryd.underlying9).trans rfl
  | 9, _ => exact (run_index_string w 9 digS .u8 _ Tryd.underlying9).trans rfl
  | 10, _ => exact (run_index_string w 9 digS .u8 _ Tryd.underlying9).trans rfl
  | 11, _ => exact (run_index_string w 9 digS .u8 _ Tryd.underlying9).trans rfl
  | 12, _ => exact (run_index_string w 9 digS .u8 _ Tryd.underlying9).trans rfl
  | 13, _ => exact (run_index_string w 9 digS .u8 _ Tryd.underlying9).trans rfl
  | 14, _ => exact (run_index_string w 9 digS .u8 _ Tryd.underlying9).trans rfl
  | 15, _ => exact (run_index_string w 9 digS .u8 _ Tryd.underlying9).trans rfl
  | k + 16, hk => exact absurd hk (by omega)
theorem u8_hi (u : UInt8) : (u.toNat : Int) / 16 = ((u.toNat / 16 : Nat) : Int) := by omega
theorem u8_lo (u : UInt8) : bits .and .u8 (u.toNat : Int) 15 = ((u.toNat % 16 : Nat) : Int) := by
  have h := u8_and_nat u.toNat 15 u.toNat_lt (by omega)
  rw [show ((15 : Nat) : Int) = 15 from rfl] at h
  rw [h, show (15 : Nat) = 2 ^ 4 - 1 from rfl, Nat.and_two_pow_sub_one_eq_mod]
theorem hexL_take (l : List UInt8) (k : Nat) (u : UInt8) (hk : k < l.length) (hu : l.getD k 0 = u) : hexL (l.take (k + 1)) = hexL (l.take k) ++ [digs.getD (u.toNat / 16) 0] ++ [digs.getD (u.toNat % 16) 0] := by
  have e : l.take (k + 1) = l.take k ++ [u] := by
    rw [List.take_succ, List.getElem?_eq_getElem hk, ← hu]
    simp [List.getElem?_eq_getElem hk]
  rw [e, hexL_append]
  simp [hexL]
theorem byteCells_snoc (X : List UInt8) (d : UInt8) : Lib.byteCells X ++ [.int .u8 (d.toNat : Int)] = Lib.byteCells (X ++ [d]) := by simp [Lib.byteCells]
set_option maxHeartbeats 2000000 in
set_option maxRecDepth 100000 in
theorem shaHex (l : List UInt8) (h20 : l.length = 20) (w : World) :
    Calls Tryd.prog 16 #[.agg (l.map U).toArray] w fun e w' => e = .returned (.string ⟨(hexL l).toArray⟩) ∧ Below w.heap.size w w' := by
  go_enter Tryd.func16, Tryd.ntmps16
  go_wp2_with (with_reducible refine wpList_stop_load (ty := 28) (x := .tmp 1) rfl ?_)
  have hS := ((Sep.start w).allocC (l.map U).toArray 28).allocC #[.pointer none, .slice none 0 0] 70
  rw [show (w.alloc (.cells (l.map U).toArray 28)).heap.size = w.heap.size + 1 from World.size_alloc _ _] at hS
  refine unstop (wpList_load_row rfl 28 (.tmp 1) rfl w.heap.size rfl 28 (l.map U).toArray (0, 0) _ (hS.blk 0 rfl) Tryd.underlying28 rfl (by rw [show (l.map U).toArray.size = 20 by simp [h20]]; exact info20) ?_)
  have hb : Lib.IsBuilder 70 5 w.heap.size (w.heap.size + 1) (Lib.byteCells (hexL [])) ((w.alloc (.cells (l.map U).toArray 28)).alloc (.cells #[.pointer none, .slice none 0 0] 70)) :=
    Or.inl ⟨by omega, .slice none 0 0, hS.blk 1 rfl, World.ownsRow_nil _ _ _ _, by simp [Value.ownBlock]⟩
  have hB := hS.below
  clear hS
  go_wp2
  go_loopw [7] (fun i wr => ∃ k : Nat, k ≤ 20 ∧ i = .int .i64 k ∧ Lib.IsBuilder 70 5 w.heap.size (w.heap.size + 1) (Lib.byteCells (hexL (l.take k))) wr ∧ Below w.heap.size w wr)
    (fun i _ => 20 - (intOf i).toNat)
  case atStart => exact ⟨0, by omega, rfl, by simpa using hb, hB⟩
  case round =>
    clear hb hB
    obtain ⟨k, hk, rfl, hb, hB⟩ := hrel
    by_cases hlt : k < 20
    · obtain ⟨u, hu⟩ : ∃ u, l.getD k 0 = u := ⟨_, rfl⟩
      have hx : ∀ w, (Instr.index 28 (.agg (l.map U).toArray) (.int .i64 (k : Int))).run Tryd.prog w = .ok (.int .u8 (u.toNat : Int)) w := by
        rw [← hu]; exact index20 l k h20 hlt
      have h1 : ∀ w, (Instr.index 9 (.string ⟨#[48, 49, 50, 51, 52, 53, 54, 55, 56, 57, 97, 98, 99, 100, 101, 102]⟩) (.int .u8 ((u.toNat : Int) / 16))).run Tryd.prog w = .ok (.int .u8 ((digs.getD (u.toNat / 16) 0).toNat : Int)) w := fun w => by
        have := u.toNat_lt
        rw [u8_hi]; exact indexDig _ (by omega) w
      have h2 : ∀ w, (Instr.index 9 (.string ⟨#[48, 49, 50, 51, 52, 53, 54, 55, 56, 57, 97, 98, 99, 100, 101, 102]⟩) (.int .u8 (bits .and .u8 (u.toNat : Int) 15))).run Tryd.prog w = .ok (.int .u8 ((digs.getD (u.toNat % 16) 0).toNat : Int)) w := fun w => by
        rw [u8_lo]; exact indexDig _ (by omega) w
      have htk := hide (hexL_take l k u (by omega) hu)
      have hle := hide (show (hexL (l.take k)).length ≤ 40 by rw [hexL_length, List.length_take]; omega)
      generalize hexL (l.take k) = X at *
      generalize digs.getD (u.toNat / 16) 0 = d1 at *
      generalize digs.getD (u.toNat % 16) 0 = d2 at *
      go_wp2_with (at_builtin; refine stopAt ?_)
      refine (writeByte w.heap.size (w.heap.size + 1) (Lib.byteCells X) _ wr hb (by rw [Lib.byteCells_length]; have := hle.out; omega) hB.size).mono ?_
      rintro e w1 ⟨rfl, hb1, hB1⟩
      rw [byteCells_snoc] at hb1
      replace hB := hB.trans hB1
      clear hb hB1
      go_wp2_with (at_builtin; refine stopAt ?_)
      refine (writeByte w.heap.size (w.heap.size + 1) (Lib.byteCells (X ++ [d1])) _ w1 (.inr hb1) (by rw [Lib.byteCells_length, List.length_append]; have := hle.out; simp; omega) hB.size).mono ?_
      rintro e w2 ⟨rfl, hb2, hB2⟩
      rw [byteCells_snoc] at hb2
      replace hB := hB.trans hB2
      clear hb1 hB2
      go_wp2
      go_roundw
      case rel => exact ⟨k + 1, by omega, rfl, .inr (by rw [htk.out]; exact hb2), hB⟩
      case measure => simp [intOf]; omega
    · obtain rfl : k = 20 := by omega
      rw [List.take_of_length_le (by omega)] at hb
      go_wp2_with (at_builtin; refine stopAt ?_)
      refine (Tryd.Builder_String_any w.heap.size (w.heap.size + 1) (hexL l) wr hb hB.size).mono ?_
      rintro e w1 ⟨rfl, hB1⟩
      replace hB := hB.trans hB1
      go_wp2
      go_ret
      exact ⟨rfl, hB⟩
end Go.Proofs.YtfabdnpeohpgnaaDoor
namespace Go.Proofs.YtfabdnpeohpgnaaDoor
set_option linter.all false
open Go.RowKit
theorem blob_U (l : List UInt8) (w : World) (S : Nat → Prop) (ρ : Rho) : Vl w S ρ (.blob (l.map U)) (.agg (l.map U).toArray) :=
  Vl.blob' _ fun u hu => by obtain ⟨x, _, rfl⟩ := List.mem_map.1 hu; rfl
def hexS : Spec := fun xs hp => match xs, hp with
  | [.blob cs], [] => some ⟨.str (hexL (unV cs)), [], cs = (unV cs).map U ∧ cs.length = 20⟩
  | _, _ => none
theorem hex_ok : FnOk Tryd.prog 16 hexS := by
  refine fnok_of_calls fun xs0 hp r hs hp' => ?_
  unfold hexS at hs
  split at hs
  · rename_i cs
    injection hs with hs; subst hs
    obtain ⟨p1, p2⟩ := hp'
    refine ⟨rfl, rfl, fun w S ρ args hS ha => ?_⟩
    obtain ⟨v, vs, rfl, hv, hr⟩ := ha.get _ _ rfl
    obtain rfl := hr.none
    generalize unV cs = l at *
    subst p1
    rw [hv.blob]
    refine (shaHex l (by simpa using p2) w).mono ?_
    rintro e w' ⟨rfl, hb⟩
    exact ⟨_, rfl, hb, fun w' S ρ => Vl.str' _⟩
  · cases hs
end Go.Proofs.YtfabdnpeohpgnaaDoor
namespace Go.Proofs.YtfabdnpeohpgnaaDoor
set_option linter.all false
def dv (c : UInt8) : Int := Lib.indexByte digs c
theorem indexB_lt (c : UInt8) : ∀ l : List UInt8, l ≠ [] → Lib.indexByte l c < (l.length : Int)
  | [], h => absurd rfl h
  | b :: l, _ => by
    unfold Lib.indexByte
    split
    · simp only [List.length_cons]; omega
    · split
      · simp only [List.length_cons]; omega
      · rename_i h1 h2
        cases l with
        | nil => simp [Lib.indexByte] at h2
        | cons b2 l2 => have := indexB_lt c (b2 :: l2) (by simp); simp at this ⊢; omega
theorem dv_lt (c : UInt8) : dv c < 16 := indexB_lt c digs (by simp [digs])
def outN (l : List UInt8) (i j : Nat) : Nat := if 2 * j + 1 < i then 16 * (dv (l.getD (2 * j) 0)).toNat + (dv (l.getD (2 * j + 1) 0)).toNat else if 2 * j < i then (dv (l.getD (2 * j) 0)).toNat else 0
theorem outN_lt (l : List UInt8) (i j : Nat) : outN l i j < 256 := by
  have h1 := dv_lt (l.getD (2 * j) 0)
  have h2 := dv_lt (l.getD (2 * j + 1) 0)
  unfold outN; split
  · omega
  · split <;> omega
def outC (l : List UInt8) (i : Nat) : Array Value := ((List.range 20).map fun j => Value.int .u8 (outN l i j : Int)).toArray
def outL (l : List UInt8) (i : Nat) : List UInt8 := (List.range 20).map fun j => UInt8.ofNat (outN l i j)
theorem outC_U (l : List UInt8) (i : Nat) : outC l i = ((outL l i).map U).toArray := by
  unfold outC outL U
  rw [List.map_map]
  congr 1
  apply List.map_congr_left
  intro j _
  have := outN_lt l i j
  simp [Nat.mod_eq_of_lt this]
theorem outC_size (l : List UInt8) (i : Nat) : (outC l i).size = 20 := by simp [outC]
theorem outC_at (l : List UInt8) (i j : Nat) (h : j < 20) : (outC l i)[j]? = some (.int .u8 (outN l i j : Int)) := by
  simp [outC, List.getElem?_range, h]
theorem outC_zero (l : List UInt8) : outC l 0 = (List.replicate 20 (Value.int .u8 0)).toArray := by
  unfold outC outN
  simp
  rfl
theorem outN_other (l : List UInt8) (i j : Nat) (h : j ≠ i / 2) : outN l (i + 1) j = outN l i j := by
  unfold outN
  by_cases h1 : 2 * j + 1 < i
  · rw [if_pos h1, if_pos (by omega)]
  · rw [if_neg h1, if_neg (by omega)]
    by_cases h2 : 2 * j < i
    · rw [if_pos h2, if_pos (by omega)]
    · rw [if_neg h2, if_neg (by omega)]
theorem outC_step (l : List UInt8) (i : Nat) (E : Int) (hE : E = (outN l (i + 1) (i / 2) : Int)) : (outC l i).setIfInBounds (i / 2) (.int .u8 E) = outC l (i + 1) := by
  apply Array.ext
  · rw [Array.size_setIfInBounds, outC_size, outC_size]
  · intro j h1 h2
    rw [outC_size] at h2
    rw [Array.size_setIfInBounds] at h1
    have e2 := outC_at l (i + 1) j h2
    have e1 := outC_at l i j h2
    rw [Array.getElem?_eq_getElem (by rw [outC_size]; exact h2), Option.some.injEq] at e1 e2
    rw [e2, Array.getElem_setIfInBounds h1]
    by_cases hj : i / 2 = j
    · rw [if_pos hj, hE, hj]
    · rw [if_neg hj, e1, outN_other l i j (fun h => hj h.symm)]
theorem outN_even (l : List UInt8) (i : Nat) (h : i % 2 = 0) : outN l i (i / 2) = 0 ∧ outN l (i + 1) (i / 2) = (dv (l.getD i 0)).toNat := by
  have e : 2 * (i / 2) = i := by omega
  unfold outN
  rw [e]
  exact ⟨by rw [if_neg (by omega), if_neg (by omega)], by rw [if_neg (by omega), if_pos (by omega)]⟩
theorem outN_odd (l : List UInt8) (i : Nat) (h : i % 2 = 1) : outN l i (i / 2) < 16 ∧ outN l (i + 1) (i / 2) = 16 * outN l i (i / 2) + (dv (l.getD i 0)).toNat := by
  have e : 2 * (i / 2) + 1 = i := by omega
  have h1 := dv_lt (l.getD (2 * (i / 2)) 0)
  unfold outN
  rw [e]
  rw [if_neg (show ¬ i < i by omega), if_pos (show 2 * (i / 2) < i by omega), if_pos (show i < i + 1 by omega)]
  exact ⟨by omega, rfl⟩
attribute [irreducible] dv outN outC outL
end Go.Proofs.YtfabdnpeohpgnaaDoor
namespace Go.Proofs.YtfabdnpeohpgnaaDoor
set_option linter.all false
open Go.RowKit
theorem idx_dv (c : UInt8) (w : World) : Calls Tryd.prog 31 #[.string ⟨#[48, 49, 50, 51, 52, 53, 54, 55, 56, 57, 97, 98, 99, 100, 101, 102]⟩, .int .u8 (c.toNat : Int)] w fun e w' => e = .returned (.int .i64 (dv c)) ∧ w' = w := by
  have h := Tryd.strings_IndexByte ⟨#[48, 49, 50, 51, 52, 53, 54, 55, 56, 57, 97, 98, 99, 100, 101, 102]⟩ (c.toNat : Int) w
  have e : (c.toNat : Int).toNat.toUInt8 = c := by simp
  rw [e] at h
  have e2 : dv c = Lib.indexByte ((⟨#[48, 49, 50, 51, 52, 53, 54, 55, 56, 57, 97, 98, 99, 100, 101, 102]⟩ : ByteArray).data.toList) c := by unfold dv; rfl
  rw [e2]; exact h
theorem index_str (l : List UInt8) (k : Nat) (hk : k < l.length) (w : World) : (Instr.index 9 (.string ⟨l.toArray⟩) (.int .i64 (k : Int))).run Tryd.prog w = .ok (.int .u8 ((l.getD k 0).toNat : Int)) w := by
  have e : (⟨l.toArray⟩ : ByteArray).size = l.length := rfl
  rw [run_index_string _ _ _ _ _ Tryd.underlying9, dif_pos ⟨by omega, by rw [e]; omega⟩]
  have e2 : (⟨l.toArray⟩ : ByteArray)[(k : Int).toNat]'(by rw [e]; omega) = l.getD k 0 := by
    simp only [Int.toNat_natCast]
    rw [List.getD_eq_getElem?_getD, List.getElem?_eq_getElem hk]
    rfl
  rw [e2]
theorem results_row_tmp {P : Program} {fn : Func} {p u : Tmp} {ty : TypeId} (h : fn.results = #[.cell p ty, .tmp u]) (tmps : Array Value) (w : World) (g : Nat) (t : TypeId) (cs : Array Value) (fr : Nat × Nat) (d : TypeDesc)
    (hp : tmps.getD p undef = .pointer (some ⟨g, 0, none⟩)) (hg : w.heap[g]? = some (.cells cs t fr))
    (hu : P.underlying ty = some d) (hd : (match d with | .struct _ | .array _ _ => true | _ => false) = true) (hi : (P.info? ty).map (·.size) = some cs.size) :
    (results fn tmps).run P w = .ok (.tuple #[.agg cs, tmps.getD u undef]) w := by
  rw [results_cell_tmp h, hp]
  simp [asAddr, run_loadVar_row w g t ty cs fr d hg hu hd hi]
theorem or_digF : ∀ d v : Fin 16, d.1 * 16 ||| v.1 = d.1 * 16 + v.1 := by decide +kernel
theorem or_dig (d v : Nat) (hd : d < 16) (hv : v < 16) : bits .or .u8 ((d : Int) * 16 % 256) (v : Int) = ((d * 16 + v : Nat) : Int) := by
  rw [show (d : Int) * 16 % 256 = ((d * 16 : Nat) : Int) by omega, u8_or_nat _ _ (by omega) (by omega), or_digF ⟨d, hd⟩ ⟨v, hv⟩]
theorem U_all (l : List UInt8) : ((l.map U).toArray).all (·.oneCell') = true := by
  simp [U, Value.oneCell']
theorem z20_size : z20.size = 20 := by unfold z20; simp
theorem z20_one : z20.all (·.oneCell') = true := by unfold z20; simp [Value.oneCell']
set_option maxHeartbeats 2000000 in
set_option maxRecDepth 100000 in
theorem shaParse (l : List UInt8) (w : World) (hl : l.length ≤ 1000000000) :
    Calls Tryd.prog 18 #[.string ⟨l.toArray⟩] w fun e w' => e = .returned (.tuple (if l.length = 40 ∧ ∀ c ∈ l, 0 ≤ dv c then #[.agg (outC l 40), .int .i64 0] else #[.agg z20, .int .i64 4])) ∧ Below w.heap.size w w' := by
  obtain ⟨R, hR⟩ : ∃ R, R = Value.tuple (if l.length = 40 ∧ ∀ c ∈ l, 0 ≤ dv c then #[.agg (outC l 40), .int .i64 0] else #[.agg z20, .int .i64 4]) := ⟨_, rfl⟩
  rw [← hR]
  have HR := hide hR
  clear hR
  have hz := zero20
  have hzs := z20_size
  have hS := ((Sep.start w).allocC z20 28).allocC z20 28
  rw [World.size_alloc] at hS
  simp only [List.cons_append, List.nil_append, List.set_cons_zero, List.set_cons_succ, List.map_cons, List.map_nil, List.getD_cons_zero, List.getD_cons_succ, Array.toList] at hS
  have hlc : (⟨l.toArray⟩ : ByteArray).size = l.length := rfl
  go_enter Tryd.func18, Tryd.ntmps18
  by_cases h40 : l.length = 40
  · go_wp2
    have hzc : z20 = outC l 0 := by rw [outC_zero]; rfl
    have hS2 : Sep w.heap.size w ((w.alloc (.cells z20 28)).alloc (.cells z20 28)) [.blk w.heap.size 28 z20, .blk (w.heap.size + 1) 28 (outC l 0)] := by rw [← hzc]; exact hS
    clear hS hzc
    go_loopw [13] (fun i wr => ∃ k : Nat, k ≤ 40 ∧ i = .int .i64 k ∧ (∀ c ∈ l.take k, 0 ≤ dv c) ∧ Sep w.heap.size w wr [.blk w.heap.size 28 z20, .blk (w.heap.size + 1) 28 (outC l k)])
      (fun i _ => 40 - (intOf i).toNat)
    case atStart => exact ⟨0, by omega, rfl, (fun c hc => by simp at hc), hS2⟩
    case round =>
      clear hS2
      obtain ⟨k, hk, rfl, hval, hS⟩ := hrel
      by_cases hlt : k < 40
      · have hlt' : (k : Int) < (l.length : Int) := by omega
        have hx := index_str l k (by omega)
        have hmem : l.getD k 0 ∈ l := by
          rw [List.getD_eq_getElem?_getD, List.getElem?_eq_getElem (by omega)]; exact List.getElem_mem _
        have htk : l.take (k + 1) = l.take k ++ [l.getD k 0] := by
          rw [List.take_succ, List.getElem?_eq_getElem (by omega), List.getD_eq_getElem?_getD, List.getElem?_eq_getElem (by omega)]; rfl
        have hE := outN_even l k
        have hO := outN_odd l k
        have hstep := outC_step l k
        obtain ⟨c, hc⟩ : ∃ c, l.getD k 0 = c := ⟨_, rfl⟩
        rw [hc] at hx hmem htk hE hO
        have hvl := dv_lt c
        go_wp2_with (at_builtin; refine stopAt ?_)
        refine (idx_dv c wr).mono ?_
        rintro e w2 ⟨rfl, rfl⟩
        by_cases hv : dv c < 0
        · have hno : ¬ (l.length = 40 ∧ ∀ c ∈ l, 0 ≤ dv c) := fun h => by have := h.2 c hmem; omega
          have Hno := hide hno
          clear hno hE hO hstep hval htk hmem
          go_wp2_with (with_reducible refine wpList_stopStore (ty := 28) (x := .tmp 2) (y := .tmp 22) rfl ?_)
          refine unstop (wpList_store_rowS hS 0 rfl rfl 28 (.tmp 2) (.tmp 22) rfl rfl rfl (by rw [hzs]; exact info20) rfl z20_one ?_)
          clear hS
          intro w2 hS
          simp only [List.cons_append, List.nil_append, List.set_cons_zero, List.set_cons_succ, List.map_cons, List.map_nil, List.getD_cons_zero, List.getD_cons_succ, Array.toList] at hS
          have hb0 := hS.blk 0 rfl
          have hbl := hS.below
          go_wp2
          refine ⟨by simp, _, ?_, (by rw [HR.out, if_neg Hno.out]), hbl⟩
          refine results_row_tmp (p := 2) (u := 3) rfl _ w2 w.heap.size 28 _ (0, 0) _ ?_ hb0 Tryd.underlying28 rfl (by rw [hzs]; exact info20)
          rfl
        · obtain ⟨v, hv2⟩ : ∃ v : Nat, dv c = v := ⟨(dv c).toNat, by omega⟩
          have hv16 : v < 16 := by omega
          have hv0 : ¬ (v : Int) < 0 := by omega
          rw [hv2]
          have g1 : w2.cell? ⟨w.heap.size + 1, k / 2, none⟩ = some (.int .u8 (outN l k (k / 2) : Int)) := hS.cell 1 (k / 2) rfl (outC_at l k (k / 2) (by omega))
          have f1 := hS.frozen 1 (k / 2) rfl
          have hE2 : bits .or .u8 ((outN l k (k / 2) : Int) * 16 % 256) (v : Int) = (outN l (k + 1) (k / 2) : Int) := by
            rcases Nat.mod_two_eq_zero_or_one k with h2 | h2
            · obtain ⟨a1, a2⟩ := hE h2
              have h3 := or_dig 0 v (by omega) hv16
              rw [Nat.zero_mul, Nat.zero_add] at h3
              rw [a1, a2, hv2, Int.toNat_natCast]
              exact h3
            · obtain ⟨a1, a2⟩ := hO h2
              rw [a2, hv2, or_dig _ v a1 hv16]
              simp; omega
          replace hE2 := hide hE2
          have hst := hide (hstep _ hE2.out)
          clear hE hO hstep
          go_wp2
          go_roundw
          case rel =>
            refine ⟨k + 1, by omega, by simp, fun x hx => ?_, (hS.store 1 (j := k / 2) rfl _).cast ?_⟩
            · rw [htk, List.mem_append, List.mem_singleton] at hx
              rcases hx with hx | rfl
              · exact hval x hx
              · omega
            · simp only [List.set_cons_succ, List.set_cons_zero]
              rw [hst.out]
          case measure => simp [intOf]; omega
      · obtain rfl : k = 40 := by omega
        rw [List.take_of_length_le (by omega)] at hval
        have hyes := hide (show l.length = 40 ∧ ∀ c ∈ l, 0 ≤ dv c from ⟨h40, hval⟩)
        clear hval
        go_wp2_with (with_reducible refine wpList_stopLoad (ty := 28) (x := .tmp 4) rfl ?_)
        refine unstop (wpList_load_row rfl 28 (.tmp 4) rfl (w.heap.size + 1) rfl 28 (outC l 40) (0, 0) _ (hS.blk 1 rfl) Tryd.underlying28 rfl (by rw [outC_size]; exact info20) ?_)
        refine wpList_store_rowS hS 0 rfl rfl 28 (.tmp 2) (.tmp 35) rfl rfl rfl (by rw [outC_size]; exact info20) (by rw [outC_size, hzs]) (by rw [outC_U]; exact U_all _) ?_
        clear hS
        intro w2 hS
        simp only [List.cons_append, List.nil_append, List.set_cons_zero, List.set_cons_succ, List.map_cons, List.map_nil, List.getD_cons_zero, List.getD_cons_succ, Array.toList] at hS
        have hb0 := hS.blk 0 rfl
        have hbl := hS.below
        go_wp2
        refine ⟨by simp, _, ?_, (by rw [HR.out, if_pos hyes.out]), hbl⟩
        refine results_row_tmp (p := 2) (u := 3) rfl _ w2 w.heap.size 28 _ (0, 0) _ ?_ hb0 Tryd.underlying28 rfl (by rw [outC_size]; exact info20)
        rfl
  · have HR2 := hide (HR.out.trans (by rw [if_neg (fun h => h40 h.1)]))
    clear HR
    have hne : ((l.length : Int) != 40) = true := by rw [bne_iff_ne]; omega
    go_wp2_with (with_reducible refine wpList_stopStore (ty := 28) (x := .tmp 2) (y := .tmp 10) rfl ?_)
    refine unstop (wpList_store_rowS hS 0 rfl rfl 28 (.tmp 2) (.tmp 10) rfl rfl rfl (by rw [hzs]; exact info20) rfl z20_one ?_)
    clear hS
    intro w2 hS
    simp only [List.cons_append, List.nil_append, List.set_cons_zero, List.set_cons_succ, List.map_cons, List.map_nil, List.getD_cons_zero, List.getD_cons_succ, Array.toList] at hS
    have hb0 := hS.blk 0 rfl
    go_wp2
    have hbl := hS.below
    refine ⟨by simp, _, ?_, (by rw [HR2.out]), hbl⟩
    refine results_row_tmp (p := 2) (u := 3) rfl _ w2 w.heap.size 28 _ (0, 0) _ ?_ hb0 Tryd.underlying28 rfl (by rw [hzs]; exact info20)
    rfl
end Go.Proofs.YtfabdnpeohpgnaaDoor
namespace Go.Proofs.YtfabdnpeohpgnaaDoor
set_option linter.all false
open Go.RowKit
def goodQ (l : List UInt8) : Bool := decide (l.length = 40 ∧ ∀ c ∈ l, 0 ≤ dv c)
def pOut (l : List UInt8) : List UInt8 := if goodQ l = true then outL l 40 else List.replicate 20 0
def pErr (l : List UInt8) : Int := if goodQ l = true then 0 else 4
def parseS : Spec := fun xs hp => match xs, hp with
  | [.str l], [] => some ⟨.tup [.blob ((pOut l).map U), .int .i64 (pErr l)], [], l.length ≤ 1000000000⟩
  | _, _ => none
theorem parse_ok : FnOk Tryd.prog 18 parseS := by
  refine fnok_of_calls fun xs0 hp r hs hp' => ?_
  unfold parseS at hs
  split at hs
  · rename_i l
    injection hs with hs; subst hs
    refine ⟨rfl, rfl, fun w S ρ args hS ha => ?_⟩
    obtain ⟨v, vs, rfl, hv, hr⟩ := ha.get _ _ rfl
    obtain rfl := hr.none
    rw [hv.str]
    refine (shaParse l w hp').mono ?_
    rintro e w' ⟨rfl, hb⟩
    refine ⟨_, rfl, hb, fun w' S ρ => ?_⟩
    have hz : (List.replicate 20 (0 : UInt8)).map U = List.replicate 20 (.int .u8 0) := rfl
    unfold pOut pErr
    by_cases hg : l.length = 40 ∧ ∀ c ∈ l, 0 ≤ dv c
    · have hg' : goodQ l = true := decide_eq_true hg
      rw [if_pos hg, if_pos hg', if_pos hg', outC_U]
      exact ⟨[_, _], rfl, rfl, fun i hi => by
        match i, hi with
        | 0, _ => exact blob_U _ _ _ _
        | 1, _ => exact Vl.int' _ _⟩
    · have hg' : ¬ goodQ l = true := by unfold goodQ; simpa using hg
      rw [if_neg hg, if_neg hg', if_neg hg', hz]
      exact ⟨[_, _], rfl, rfl, fun i hi => by
        match i, hi with
        | 0, _ => exact Vl.blob' (List.replicate 20 (.int .u8 0)) (by simp [Value.oneCell'])
        | 1, _ => exact Vl.int' _ _⟩
  · cases hs
end Go.Proofs.YtfabdnpeohpgnaaDoor
namespace Go.Proofs.YtfabdnpeohpgnaaDoor
set_option linter.all false
theorem dv_digF : ∀ k : Fin 16, Lib.indexByte digs (digs.getD k.1 0) = (k.1 : Int) := by decide
theorem dv_dig (k : Nat) (h : k < 16) : dv (digs.getD k 0) = (k : Int) := by unfold dv; exact dv_digF ⟨k, h⟩
theorem dig_dv (c : UInt8) (h : 0 ≤ dv c) : digs.getD (dv c).toNat 0 = c := by
  obtain ⟨o, ho⟩ : ∃ o : Nat, dv c = o := ⟨(dv c).toNat, by omega⟩
  rw [ho]
  unfold dv at ho
  have := (Lib.indexByte_some ho).1
  simp only [Int.toNat_natCast, List.getD_eq_getElem?_getD, this, Option.getD_some]
theorem hexL_at : ∀ (l : List UInt8) (j : Nat), j < l.length → (hexL l).getD (2 * j) 0 = digs.getD ((l.getD j 0).toNat / 16) 0 ∧ (hexL l).getD (2 * j + 1) 0 = digs.getD ((l.getD j 0).toNat % 16) 0
  | [], j, h => absurd h (by simp)
  | b :: l, 0, _ => ⟨rfl, rfl⟩
  | b :: l, j + 1, h => by
    have ih := hexL_at l j (by simpa using h)
    rw [show 2 * (j + 1) = 2 * j + 1 + 1 by omega, hexL, List.getD_cons_succ, List.getD_cons_succ, List.getD_cons_succ, List.getD_cons_succ, List.getD_cons_succ]
    exact ih
theorem hexL_ok : ∀ (l : List UInt8), ∀ c ∈ hexL l, 0 ≤ dv c
  | [], c, h => by cases h
  | b :: l, c, h => by
    have := b.toNat_lt
    rw [hexL, List.mem_cons, List.mem_cons] at h
    rcases h with rfl | rfl | h
    · rw [dv_dig _ (by omega)]; omega
    · rw [dv_dig _ (by omega)]; omega
    · exact hexL_ok l c h
theorem parse_hexN (id : List UInt8) (j : Nat) (hj : j < 20) (h : id.length = 20) : outN (hexL id) 40 j = (id.getD j 0).toNat := by
  obtain ⟨h1, h2⟩ := hexL_at id j (by omega)
  have := (id.getD j 0).toNat_lt
  unfold outN
  rw [if_pos (by omega), h1, h2, dv_dig _ (by omega), dv_dig _ (by omega), Int.toNat_natCast, Int.toNat_natCast]
  omega
theorem parse_hex (id : List UInt8) (h : id.length = 20) : outL (hexL id) 40 = id := by
  apply List.ext_getElem?
  intro j
  unfold outL
  by_cases hj : j < 20
  · rw [List.getElem?_map, List.getElem?_range hj, Option.map_some, parse_hexN id j hj h, UInt8.ofNat_toNat, List.getD_eq_getElem?_getD, List.getElem?_eq_getElem (by omega)]
    rfl
  · rw [List.getElem?_eq_none (by simp; omega), List.getElem?_eq_none (by omega)]
theorem outL_length (s : List UInt8) (i : Nat) : (outL s i).length = 20 := by unfold outL; simp
theorem outL_at (s : List UInt8) (i j : Nat) (h : j < 20) : ((outL s i).getD j 0).toNat = outN s i j := by
  have := outN_lt s i j
  unfold outL
  rw [List.getD_eq_getElem?_getD, List.getElem?_map, List.getElem?_range h]
  simp
  omega
theorem hex_parse (s : List UInt8) (h : s.length = 40) (hv : ∀ c ∈ s, 0 ≤ dv c) : hexL (outL s 40) = s := by
  have hat : ∀ n, n < 40 → 0 ≤ dv (s.getD n 0) := fun n hn => hv _ (by
    rw [List.getD_eq_getElem?_getD, List.getElem?_eq_getElem (by omega)]; exact List.getElem_mem _)
  have key : ∀ n, n < 40 → (hexL (outL s 40)).getD n 0 = s.getD n 0 := by
    intro n hn
    obtain ⟨h1, h2⟩ := hexL_at (outL s 40) (n / 2) (by rw [outL_length]; omega)
    rw [outL_at s 40 (n / 2) (by omega)] at h1 h2
    have hd : outN s 40 (n / 2) = 16 * (dv (s.getD (2 * (n / 2)) 0)).toNat + (dv (s.getD (2 * (n / 2) + 1) 0)).toNat := by
      unfold outN; rw [if_pos (by omega)]
    have l1 := dv_lt (s.getD (2 * (n / 2)) 0)
    have l2 := dv_lt (s.getD (2 * (n / 2) + 1) 0)
    rcases (show n = 2 * (n / 2) ∨ n = 2 * (n / 2) + 1 by omega) with e | e
    · have e1 : outN s 40 (n / 2) / 16 = (dv (s.getD (2 * (n / 2)) 0)).toNat := by omega
      rw [e1, dig_dv _ (hat _ (by omega)), ← e] at h1
      exact h1
    · have e1 : outN s 40 (n / 2) % 16 = (dv (s.getD (2 * (n / 2) + 1) 0)).toNat := by omega
      rw [e1, dig_dv _ (hat _ (by omega)), ← e] at h2
      exact h2
  apply List.ext_getElem?
  intro n
  by_cases hn : n < 40
  · have := key n hn
    rw [List.getD_eq_getElem?_getD, List.getD_eq_getElem?_getD, List.getElem?_eq_getElem (by rw [hexL_length, outL_length]; omega), List.getElem?_eq_getElem (by omega)] at this
    rw [List.getElem?_eq_getElem (by rw [hexL_length, outL_length]; omega), List.getElem?_eq_getElem (by omega)]
    simpa using this
  · rw [List.getElem?_eq_none (by rw [hexL_length, outL_length]; omega), List.getElem?_eq_none (by omega)]
end Go.Proofs.YtfabdnpeohpgnaaDoor
namespace Go.Proofs.YtfabdnpeohpgnaaDoor
set_option linter.all false
open Go.RowKit
theorem goodQ_iff (l : List UInt8) : goodQ l = true ↔ l.length = 40 ∧ ∀ c ∈ l, 0 ≤ dv c := by unfold goodQ; simp
theorem pOut_len (l : List UInt8) : (pOut l).length = 20 := by
  unfold pOut
  split
  · exact outL_length _ _
  · simp
theorem hex_good (l : List UInt8) (h : l.length = 20) : goodQ (hexL l) = true := (goodQ_iff _).2 ⟨by rw [hexL_length, h], hexL_ok l⟩
theorem pOut_hex (l : List UInt8) (h : l.length = 20) : pOut (hexL l) = l := by unfold pOut; rw [if_pos (hex_good l h), parse_hex l h]
theorem hex_pOut (l : List UInt8) (h : goodQ l = true) : hexL (pOut l) = l := by
  unfold pOut
  rw [if_pos h]
  exact hex_parse l ((goodQ_iff l).1 h).1 ((goodQ_iff l).1 h).2
end Go.Proofs.YtfabdnpeohpgnaaDoor
namespace Go.Proofs.YtfabdnpeohpgnaaDoor
set_option linter.all false
open Go.Lib (index indexByte splitK count countB splitB cut indexAny)
def psl (c : UInt8) : List UInt8 → List (List UInt8)
  | [] => [[]]
  | b :: r => if b = c then [] :: psl c r else match psl c r with
    | h :: t => (b :: h) :: t
    | [] => [[b]]
theorem psl_ne (c : UInt8) : ∀ l, psl c l ≠ []
  | [] => by simp [psl]
  | b :: r => by
    unfold psl
    split
    · simp
    · split <;> simp
theorem psl_cons_ne {c b : UInt8} (h : b ≠ c) (r : List UInt8) : ∃ x t, psl c r = x :: t ∧ psl c (b :: r) = (b :: x) :: t := by
  cases hp : psl c r with
  | nil => exact absurd hp (psl_ne c r)
  | cons x t => exact ⟨x, t, rfl, by rw [psl, if_neg h, hp]⟩
theorem psl_cons_eq (c : UInt8) (r : List UInt8) : psl c (c :: r) = [] :: psl c r := by rw [psl, if_pos rfl]
theorem splitK_psl (c : UInt8) : ∀ l : List UInt8, splitK [c] 0 (count l [c]) l = psl c l
  | [] => by
    rw [Go.Lib.count_miss (by simp [index])]; rfl
  | b :: l => by
    have ih := splitK_psl c l
    by_cases h : b = c
    · subst h
      have hix : index (b :: l) [b] = 0 := by rw [index]; simp [List.isPrefixOf]
      rw [Go.Lib.count_cons_eq, Nat.add_comm, splitK, hix, if_neg (by decide), psl_cons_eq, ← ih]
      simp
    · obtain ⟨x, t, e1, e2⟩ := psl_cons_ne h l
      have hp : ([c] : List UInt8).isPrefixOf (b :: l) = false := by simp [List.isPrefixOf, Ne.symm h]
      have hix : index (b :: l) [c] = if index l [c] == -1 then -1 else index l [c] + 1 := by rw [index, hp]; simp
      rw [Go.Lib.count_cons_ne b c l h, e2]
      rw [e1] at ih
      by_cases hm : index l [c] = -1
      · rw [Go.Lib.count_miss hm] at ih ⊢
        simp only [splitK, List.cons.injEq] at ih ⊢
        exact ⟨⟨trivial, ih.1⟩, ih.2⟩
      · have hge := Go.Lib.index_ge l [c]
        obtain ⟨j, hj⟩ : ∃ j : Nat, index l [c] = j := ⟨(index l [c]).toNat, by omega⟩
        rw [Go.Lib.count_hit (by simp) hj, Nat.add_comm] at ih ⊢
        have hix' : index (b :: l) [c] = ((j + 1 : Nat) : Int) := by rw [hix, if_neg (fun e => hm (beq_iff_eq.1 e)), hj]; omega
        rw [splitK, hj, if_neg (fun e => hm (by rw [hj]; exact beq_iff_eq.1 e))] at ih
        rw [splitK, hix', if_neg (fun e => by have := beq_iff_eq.1 e; omega)]
        simp only [List.length_cons, List.length_nil, Nat.zero_add, Nat.add_zero, Int.toNat_natCast, List.cons.injEq, List.take_succ_cons, List.drop_succ_cons] at ih ⊢
        exact ⟨⟨trivial, ih.1⟩, ih.2⟩
theorem psl_join_len (c : UInt8) : ∀ l : List UInt8, (psl c l).length ≤ l.length + 1
  | [] => by simp [psl]
  | b :: l => by
    have ih := psl_join_len c l
    by_cases h : b = c
    · subst h; rw [psl_cons_eq]; simp; omega
    · obtain ⟨x, t, e1, e2⟩ := psl_cons_ne h l
      rw [e2]; rw [e1] at ih; simp at ih ⊢; omega
def pre1 (acc : List UInt8) : List (List UInt8) → List (List UInt8)
  | [] => [acc]
  | h :: t => (acc ++ h) :: t
def badP (q : List UInt8) : Bool := decide (q = []) || decide (q = [46]) || decide (q = [46, 46])
def ctlB (c : UInt8) : Bool := decide (c = 0) || decide (c = 10) || decide (c = 13)
def rightP (p : List UInt8) : Bool := !decide (255 < p.length) && !p.any ctlB && !(psl 47 p).any badP
theorem indexAny_nn (chars : List UInt8) : ∀ s : List UInt8, (decide (0 ≤ indexAny s chars)) = s.any fun b => chars.contains b
  | [] => rfl
  | b :: l => by
    have ih := indexAny_nn chars l
    have hg := Go.Lib.indexAny_ge chars l
    have hd : indexAny (b :: l) chars = if chars.contains b then 0 else if indexAny l chars == -1 then -1 else indexAny l chars + 1 := by rw [indexAny]
    rw [List.any_cons, ← ih, hd]
    cases hb : chars.contains b with
    | true => simp
    | false =>
      simp only [Bool.false_or, Bool.false_eq_true, if_false]
      by_cases h : indexAny l chars = -1
      · rw [if_pos (beq_iff_eq.2 h), h]
      · rw [if_neg (by simpa using h)]
        rw [Bool.eq_iff_iff]; simp; omega
theorem rightP_facts {p : List UInt8} (h : rightP p = true) : p.length ≤ 255 ∧ (∀ c ∈ p, c ≠ 0 ∧ c ≠ 10 ∧ c ≠ 13) ∧ p ≠ [] := by
  unfold rightP at h
  simp only [Bool.and_eq_true, Bool.not_eq_true', decide_eq_false_iff_not, Nat.not_lt, List.any_eq_false] at h
  refine ⟨h.1.1, fun c hc => ?_, ?_⟩
  · have := h.1.2 c hc
    simp [ctlB] at this
    exact ⟨this.1.1, this.1.2, this.2⟩
  · rintro rfl
    exact absurd (h.2 [] (by simp [psl])) (by decide)
end Go.Proofs.YtfabdnpeohpgnaaDoor
namespace Go.Proofs.YtfabdnpeohpgnaaDoor
set_option linter.all false
open Go.RowKit
open Go.Lib (index hasPrefix trimPrefix cut occAt indexAny replaceK replaceNum replaceAll)
theorem occAt_1 {s : List UInt8} {c : UInt8} {j : Nat} (h : occAt s [c] j = true) : s[j]? = some c := by
  unfold occAt at h
  cases hd : s.drop j with
  | nil => rw [hd] at h; cases h
  | cons x r =>
    rw [hd] at h
    have e : c = x := by simpa [List.isPrefixOf] using h
    have := congrArg (fun l => l[0]?) hd
    simpa [e] using this
theorem occAt_append (a p b : List UInt8) : occAt (a ++ (p ++ b)) p a.length = true := by
  unfold occAt
  rw [List.drop_left]
  simp [List.isPrefixOf_iff_prefix]
theorem index_app {a p b : List UInt8} (h : ∀ j, j < a.length → occAt (a ++ (p ++ b)) p j = false) : index (a ++ (p ++ b)) p = a.length :=
  Lib.index_first (by simp) (occAt_append a p b) h
theorem cut_app {a p b : List UInt8} (h : ∀ j, j < a.length → occAt (a ++ (p ++ b)) p j = false) : cut (a ++ (p ++ b)) p = (a, b, true) := by
  have e := index_app h
  have e2 : (index (a ++ (p ++ b)) p).toNat = a.length := by omega
  unfold cut
  rw [if_pos (by omega), e2, List.take_left, ← List.drop_drop, List.drop_left, List.drop_left]
theorem cut_1 {a b : List UInt8} {c : UInt8} (h : c ∉ a) : cut (a ++ c :: b) [c] = (a, b, true) := by
  refine cut_app (p := [c]) fun j hj => ?_
  rw [Bool.eq_false_iff]
  intro ho
  have := occAt_1 ho
  rw [List.getElem?_append_left hj] at this
  exact h (List.mem_of_getElem? this)
theorem cut_1n {s : List UInt8} {c : UInt8} (h : c ∉ s) : cut s [c] = (s, [], false) := by
  have e : index s [c] = -1 := by
    rcases Lib.index_spec s [c] with h1 | ⟨i, _, _, h3, _⟩
    · exact h1.1
    · exact absurd (List.mem_of_getElem? (occAt_1 h3)) h
  unfold cut
  rw [if_neg (by omega)]
theorem cut_t {s p : List UInt8} (h : (cut s p).2.2 = true) : s = (cut s p).1 ++ (p ++ (cut s p).2.1) := by
  unfold cut at h ⊢
  split at h
  · rename_i hi
    rw [if_pos hi]
    simp only
    rcases Lib.index_spec s p with h1 | ⟨i, h1, h2, h3, _⟩
    · omega
    · have e : (index s p).toNat = i := by omega
      rw [e]
      unfold occAt at h3
      rw [List.isPrefixOf_iff_prefix] at h3
      obtain ⟨r, hr⟩ := h3
      rw [← List.drop_drop, ← hr, List.drop_left, hr, List.take_append_drop]
  · cases h
theorem cut_f {s p : List UInt8} (h : (cut s p).2.2 = false) : (cut s p).1 = s ∧ (cut s p).2.1 = [] := by
  unfold cut at h ⊢
  split at h
  · cases h
  · rename_i hi
    rw [if_neg hi]
    exact ⟨rfl, rfl⟩
theorem cut_1mem {s : List UInt8} {c : UInt8} : c ∉ (cut s [c]).1 := by
  unfold cut
  split
  · rename_i hi
    simp only
    rcases Lib.index_spec s [c] with h1 | ⟨i, h1, h2, h3, h4⟩
    · omega
    · have e : (index s [c]).toNat = i := by omega
      rw [e]
      intro hm
      obtain ⟨j, hj, hg⟩ := List.getElem_of_mem hm
      rw [List.length_take] at hj
      have := h4 j (by omega)
      rw [Bool.eq_false_iff] at this
      apply this
      rw [List.getElem_take] at hg
      unfold occAt
      rw [List.drop_eq_getElem_cons (by omega), hg]
      simp [List.isPrefixOf]
  · rename_i hi
    simp only
    intro hm
    obtain ⟨j, hj, hg⟩ := List.getElem_of_mem hm
    rcases Lib.index_spec s [c] with h1 | ⟨i, h1, h2, h3, h4⟩
    · have := h1.2 j (by omega)
      rw [Bool.eq_false_iff] at this
      apply this
      unfold occAt
      rw [List.drop_eq_getElem_cons hj, hg]
      simp [List.isPrefixOf]
    · omega
theorem cut_1f {s : List UInt8} {c : UInt8} (h : (cut s [c]).2.2 = false) : c ∉ s := by
  have h1 := cut_1mem (s := s) (c := c)
  rwa [(cut_f h).1] at h1
theorem cut_1t {s : List UInt8} {c : UInt8} (h : c ∈ s) : (cut s [c]).2.2 = true := by
  cases hc : (cut s [c]).2.2 with
  | true => rfl
  | false => exact absurd h (cut_1f hc)
theorem mem_split {c : UInt8} : ∀ {s : List UInt8}, c ∈ s → ∃ a b, s = a ++ c :: b ∧ c ∉ a := by
  intro s h
  exact ⟨_, _, cut_t (cut_1t h), cut_1mem⟩
end Go.Proofs.YtfabdnpeohpgnaaDoor
