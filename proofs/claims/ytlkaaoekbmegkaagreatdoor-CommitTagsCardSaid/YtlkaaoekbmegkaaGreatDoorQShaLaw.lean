import Derived.Test.YtlkaaoekbmegkaaGreatDoorQNumLaw
import Derived.Lib.Bytealg
import Derived.KernelRfl
import Derived.Test.YtlkaaoekbmegkaaGreatDoorProg
import Derived.Shelf.Strings.Builder1
import Derived.Laws.EntriesVeiled
import Derived.Test.YtlkaaoekbmegkaaGreatDoorQShelf
import Derived.Test.YtlkaaoekbmegkaaGreatDoorQSep
import Derived.Laws.BitsAll
import Derived.BigQuiet
import Derived.Deep.QuietTactic
import Derived.BigRegion
import Derived.Deep.RegionHeld3
import Derived.StillTailTactics
import Derived.Test.YtlkaaoekbmegkaaGreatDoorQAMS
import Derived.Test.YtlkaaoekbmegkaaGreatDoorQComCode
import Derived.Test.YtlkaaoekbmegkaaGreatDoorQRunes
import Derived.Lib.ItoaLen
/- Layer 2's sum in plain words: numbers below 2^32, no program. -/
namespace Go.Proofs.YtlkaaoekbmegkaaGreatDoor
set_option linter.all false
open Go.RowKit

/-- A number's bits turned to the left. -/
def rot : Nat → Nat → Nat
  | x, 0 => x
  | x, n + 1 => 2 * rot x n % 4294967296 + 2 * rot x n / 4294967296
theorem rot_lt (x : Nat) (h : x < 4294967296) : ∀ n, rot x n < 4294967296
  | 0 => h
  | n + 1 => by
    have := rot_lt x h n
    simp only [rot]
    omega

theorem rot_form (x : Nat) : ∀ (n s t u v : Nat), s = 2 ^ n → s * t = 4294967296 → v < t → u < s → x = u * t + v → rot x n = v * s + u
  | 0, s, t, u, v, hs, hst, hv, hu, hx => by
    simp at hs
    subst hs
    obtain rfl : u = 0 := by omega
    simp [rot, hx]
  | n + 1, s, t, u, v, hs, hst, hv, hu, hx => by
    obtain ⟨s0, hs0⟩ : ∃ s0, s0 = 2 ^ n := ⟨_, rfl⟩
    have hs2 : s = 2 * s0 := by rw [hs, hs0, Nat.pow_succ]; omega
    subst hs2
    have hp : s0 * (2 * t) = 4294967296 := by rw [← hst]; simp [Nat.mul_assoc, Nat.mul_comm, Nat.mul_left_comm]
    have hp2 : 2 * (s0 * t) = 4294967296 := by rw [← hst]; simp [Nat.mul_assoc]
    obtain ⟨c, u0, hc, hu0⟩ : ∃ c u0, c < 2 ∧ u = 2 * u0 + c := ⟨u % 2, u / 2, by omega, by omega⟩
    have hu1 : u0 < s0 := by omega
    have hv0 : c * t + v < 2 * t := by
      rcases (show c = 0 ∨ c = 1 by omega) with rfl | rfl <;> omega
    have hx0 : x = u0 * (2 * t) + (c * t + v) := by
      rw [hx, hu0, Nat.add_mul]; simp [Nat.mul_assoc, Nat.mul_left_comm, Nat.add_assoc]
    have ih := rot_form x n s0 (2 * t) u0 (c * t + v) hs0 hp hv0 hu1 hx0
    have hb : s0 * v + s0 ≤ s0 * t := by rw [← Nat.mul_succ]; exact Nat.mul_le_mul_left _ hv
    have e : (c * t + v) * s0 = c * (s0 * t) + s0 * v := by rw [Nat.add_mul, Nat.mul_assoc, Nat.mul_comm t, Nat.mul_comm v]
    have e2 : v * (2 * s0) = 2 * (s0 * v) := by rw [Nat.mul_left_comm, Nat.mul_comm v]
    simp only [rot]
    rw [ih, e, e2]
    generalize s0 * t = P at *
    generalize s0 * v = Q at *
    rcases (show c = 0 ∨ c = 1 by omega) with rfl | rfl
    · simp only [Nat.zero_mul, Nat.zero_add]
      omega
    · simp only [Nat.one_mul]
      omega

/-- As the machine's shifts make it. -/
theorem rot_shift (x n : Nat) (hx : x < 4294967296) (hn : n ≤ 31) : (x * 2 ^ n % 4294967296) ||| (x / 2 ^ (32 - n)) = rot x n := by
  have hst : 2 ^ n * 2 ^ (32 - n) = 4294967296 := by rw [← Nat.pow_add, show n + (32 - n) = 32 by omega]
  have hu : x / 2 ^ (32 - n) < 2 ^ n := by
    rw [Nat.div_lt_iff_lt_mul (Nat.two_pow_pos _), hst]; exact hx
  have hf := rot_form x n (2 ^ n) (2 ^ (32 - n)) (x / 2 ^ (32 - n)) (x % 2 ^ (32 - n)) rfl hst (Nat.mod_lt _ (Nat.two_pow_pos _)) hu (by rw [Nat.mul_comm]; exact (Nat.div_add_mod _ _).symm)
  have e : x * 2 ^ n % 4294967296 = (x % 2 ^ (32 - n)) <<< n := by
    rw [← hst, Nat.mul_comm x, Nat.mul_mod_mul_left, Nat.shiftLeft_eq, Nat.mul_comm]
  rw [hf, e, ← Nat.shiftLeft_add_eq_or_of_lt hu, Nat.shiftLeft_eq]

/-- The five numbers. -/
structure ShSt where
  a : Nat
  b : Nat
  c : Nat
  d : Nat
  e : Nat
def ShSt.ok (s : ShSt) : Prop := s.a < 4294967296 ∧ s.b < 4294967296 ∧ s.c < 4294967296 ∧ s.d < 4294967296 ∧ s.e < 4294967296
def stepF (i b c d : Nat) : Nat :=
  if i < 20 then (b &&& c) ||| ((4294967295 - b) &&& d) else if i < 40 then b ^^^ c ^^^ d else if i < 60 then (b &&& c) ||| (b &&& d) ||| (c &&& d) else b ^^^ c ^^^ d
def stepK (i : Nat) : Nat := if i < 20 then 1518500249 else if i < 40 then 1859775393 else if i < 60 then 2400959708 else 3395469782
def rnd (i x : Nat) (s : ShSt) : ShSt := ⟨(rot s.a 5 + stepF i s.b s.c s.d + s.e + stepK i + x) % 4294967296, s.a, rot s.b 30, s.c, s.d⟩
def rnds : Nat → List Nat → ShSt → ShSt
  | _, [], s => s
  | i, x :: xs, s => rnds (i + 1) xs (rnd i x s)
def word (p : List UInt8) (i : Nat) : Nat := (p.getD (4 * i) 0).toNat * 16777216 + (p.getD (4 * i + 1) 0).toNat * 65536 + (p.getD (4 * i + 2) 0).toNat * 256 + (p.getD (4 * i + 3) 0).toNat
def first16 (p : List UInt8) : List Nat := (List.range 16).map (word p)
def nextW (L : List Nat) (i : Nat) : Nat := rot (L.getD (i - 3) 0 ^^^ L.getD (i - 8) 0 ^^^ L.getD (i - 14) 0 ^^^ L.getD (i - 16) 0) 1
def ext : Nat → List Nat → List Nat
  | 0, L => L
  | n + 1, L => ext n (L ++ [nextW L L.length])
def sched (p : List UInt8) : List Nat := ext 64 (first16 p)
def blockStep (p : List UInt8) (h : ShSt) : ShSt :=
  let s := rnds 0 (sched p) h
  ⟨(h.a + s.a) % 4294967296, (h.b + s.b) % 4294967296, (h.c + s.c) % 4294967296, (h.d + s.d) % 4294967296, (h.e + s.e) % 4294967296⟩
def chunk (l : List UInt8) (k : Nat) : List UInt8 := (l.drop (64 * k)).take 64
def hashB (n : Nat) (l : List UInt8) (h : ShSt) : ShSt := ((List.range n).map (chunk l)).foldl (fun h p => blockStep p h) h
def padZ (n : Nat) : Nat := (119 - n % 64) % 64
def padded (l : List UInt8) : List UInt8 := l ++ [128] ++ List.replicate (padZ l.length) 0 ++ be 8 (8 * l.length)
def st0 : ShSt := ⟨1732584193, 4023233417, 2562383102, 271733878, 3285377520⟩
def shaSt (l : List UInt8) : ShSt := hashB ((padded l).length / 64) (padded l) st0
def ShSt.bytes (s : ShSt) : List UInt8 := be 4 s.a ++ be 4 s.b ++ be 4 s.c ++ be 4 s.d ++ be 4 s.e
/-- The sum of bytes. -/
def sha (l : List UInt8) : List UInt8 := (shaSt l).bytes

theorem stepF_lt (i b c d : Nat) (hb : b < 4294967296) (hc : c < 4294967296) (hd : d < 4294967296) : stepF i b c d < 4294967296 := by
  have e : (4294967296 : Nat) = 2 ^ 32 := rfl
  rw [e] at hb hc hd ⊢
  unfold stepF
  split
  · exact Nat.or_lt_two_pow (Nat.and_lt_two_pow _ hc) (Nat.and_lt_two_pow _ hd)
  · split
    · exact Nat.xor_lt_two_pow (Nat.xor_lt_two_pow hb hc) hd
    · split
      · exact Nat.or_lt_two_pow (Nat.or_lt_two_pow (Nat.and_lt_two_pow _ hc) (Nat.and_lt_two_pow _ hd)) (Nat.and_lt_two_pow _ hd)
      · exact Nat.xor_lt_two_pow (Nat.xor_lt_two_pow hb hc) hd
theorem stepK_lt (i : Nat) : stepK i < 4294967296 := by
  unfold stepK; split <;> (try split) <;> (try split) <;> omega
theorem rnd_ok (i x : Nat) (s : ShSt) (h : s.ok) : (rnd i x s).ok := by
  obtain ⟨h1, h2, h3, h4, h5⟩ := h
  exact ⟨Nat.mod_lt _ (by omega), h1, rot_lt _ h2 _, h3, h4⟩
theorem rnds_ok : ∀ (xs : List Nat) (i : Nat) (s : ShSt), s.ok → (rnds i xs s).ok
  | [], _, _, h => h
  | x :: xs, i, s, h => rnds_ok xs (i + 1) _ (rnd_ok i x s h)
theorem blockStep_ok (p : List UInt8) (h : ShSt) : (blockStep p h).ok := ⟨Nat.mod_lt _ (by omega), Nat.mod_lt _ (by omega), Nat.mod_lt _ (by omega), Nat.mod_lt _ (by omega), Nat.mod_lt _ (by omega)⟩
theorem hashB_zero (l : List UInt8) (h : ShSt) : hashB 0 l h = h := by simp [hashB]
theorem hashB_succ (n : Nat) (l : List UInt8) (h : ShSt) : hashB (n + 1) l h = blockStep (chunk l n) (hashB n l h) := by
  unfold hashB
  rw [List.range_succ, List.map_append, List.foldl_append, List.map_cons, List.map_nil, List.foldl_cons, List.foldl_nil]
theorem hashB_ok (n : Nat) (l : List UInt8) (h : ShSt) (hh : h.ok) : (hashB n l h).ok := by
  cases n with
  | zero => rw [hashB_zero]; exact hh
  | succ n => rw [hashB_succ]; exact blockStep_ok _ _
theorem word_lt (p : List UInt8) (i : Nat) : word p i < 4294967296 := by
  unfold word
  have := (p.getD (4 * i) 0).toNat_lt
  have := (p.getD (4 * i + 1) 0).toNat_lt
  have := (p.getD (4 * i + 2) 0).toNat_lt
  have := (p.getD (4 * i + 3) 0).toNat_lt
  omega
def allLt (L : List Nat) : Prop := ∀ x ∈ L, x < 4294967296
theorem allLt.getD {L : List Nat} (h : allLt L) (i : Nat) : L.getD i 0 < 4294967296 := by
  rw [List.getD_eq_getElem?_getD]
  rcases Nat.lt_or_ge i L.length with h1 | h1
  · rw [List.getElem?_eq_getElem h1]; exact h _ (List.getElem_mem h1)
  · rw [List.getElem?_eq_none h1]; simp
theorem nextW_lt (L : List Nat) (i : Nat) (h : allLt L) : nextW L i < 4294967296 := by
  unfold nextW
  have e : (4294967296 : Nat) = 2 ^ 32 := rfl
  refine rot_lt _ ?_ 1
  have h1 := h.getD (i - 3)
  have h2 := h.getD (i - 8)
  have h3 := h.getD (i - 14)
  have h4 := h.getD (i - 16)
  rw [e] at h1 h2 h3 h4 ⊢
  exact Nat.xor_lt_two_pow (Nat.xor_lt_two_pow (Nat.xor_lt_two_pow h1 h2) h3) h4
theorem ext_len : ∀ (n : Nat) (L : List Nat), (ext n L).length = L.length + n
  | 0, _ => rfl
  | n + 1, L => by simp only [ext]; rw [ext_len n]; simp; omega
theorem ext_lt : ∀ (n : Nat) (L : List Nat), allLt L → allLt (ext n L)
  | 0, _, h => h
  | n + 1, L, h => ext_lt n _ (by
    intro x hx
    rcases List.mem_append.1 hx with h1 | h1
    · exact h x h1
    · rw [List.mem_singleton.1 h1]; exact nextW_lt L _ h)
theorem first16_lt (p : List UInt8) : allLt (first16 p) := by
  intro x hx
  obtain ⟨i, _, rfl⟩ := List.mem_map.1 hx
  exact word_lt p i
theorem sched_len (p : List UInt8) : (sched p).length = 80 := by unfold sched; rw [ext_len]; simp [first16]
theorem sched_lt (p : List UInt8) : allLt (sched p) := ext_lt _ _ (first16_lt p)
theorem padded_len (l : List UInt8) : (padded l).length % 64 = 0 := by
  unfold padded padZ
  simp only [List.length_append, List.length_replicate, be_len, List.length_cons, List.length_nil]
  omega
theorem bytes_len (s : ShSt) : s.bytes.length = 20 := by simp [ShSt.bytes, be_len]
theorem rnds_at (L : List Nat) (i k : Nat) (s : ShSt) (hk : k < L.length) : rnds i (L.drop k) s = rnds (i + 1) (L.drop (k + 1)) (rnd i L[k] s) := by
  rw [List.drop_eq_getElem_cons hk]; rfl
theorem first16_take (p : List UInt8) (k : Nat) (hk : k < 16) : (first16 p).take (k + 1) = (first16 p).take k ++ [word p k] := by
  rw [List.take_succ_eq_append_getElem (by simp [first16]; omega)]; simp [first16]
theorem ext_zero (L : List Nat) : ext 0 L = L := rfl
theorem ext_succ (n : Nat) (L : List Nat) : ext (n + 1) L = ext n (L ++ [nextW L L.length]) := rfl
theorem sched_def (p : List UInt8) : sched p = ext 64 (first16 p) := rfl
theorem rnds_nil (i : Nat) (s : ShSt) : rnds i [] s = s := rfl
theorem blockStep_def (p : List UInt8) (h : ShSt) : blockStep p h = ⟨(h.a + (rnds 0 (sched p) h).a) % 4294967296, (h.b + (rnds 0 (sched p) h).b) % 4294967296, (h.c + (rnds 0 (sched p) h).c) % 4294967296, (h.d + (rnds 0 (sched p) h).d) % 4294967296, (h.e + (rnds 0 (sched p) h).e) % 4294967296⟩ := by unfold blockStep; rfl
theorem nextW_def (L : List Nat) (i : Nat) : nextW L i = rot (L.getD (i - 3) 0 ^^^ L.getD (i - 8) 0 ^^^ L.getD (i - 14) 0 ^^^ L.getD (i - 16) 0) 1 := rfl
theorem sha_def (l : List UInt8) : sha l = (hashB ((padded l).length / 64) (padded l) st0).bytes := rfl
attribute [irreducible] sched ext rnds blockStep hashB shaSt sha padded nextW first16 rot word
end Go.Proofs.YtlkaaoekbmegkaaGreatDoor
/- Sums as text, in plain words. -/
namespace Go.Proofs.YtlkaaoekbmegkaaGreatDoor
set_option linter.all false

def digs : List UInt8 := [48, 49, 50, 51, 52, 53, 54, 55, 56, 57, 97, 98, 99, 100, 101, 102]
def hexL : List UInt8 → List UInt8
  | [] => []
  | b :: l => digs.getD (b.toNat / 16) 0 :: digs.getD (b.toNat % 16) 0 :: hexL l

theorem known1 : hexL (sha []) = [100, 97, 51, 57, 97, 51, 101, 101, 53, 101, 54, 98, 52, 98, 48, 100, 51, 50, 53, 53, 98, 102, 101, 102, 57, 53, 54, 48, 49, 56, 57, 48, 97, 102, 100, 56, 48, 55, 48, 57] := by kernel_rfl
theorem known2 : hexL (sha [97, 98, 99]) = [97, 57, 57, 57, 51, 101, 51, 54, 52, 55, 48, 54, 56, 49, 54, 97, 98, 97, 51, 101, 50, 53, 55, 49, 55, 56, 53, 48, 99, 50, 54, 99, 57, 99, 100, 48, 100, 56, 57, 100] := by kernel_rfl

theorem hexL_length : ∀ l, (hexL l).length = 2 * l.length
  | [] => rfl
  | b :: l => by simp [hexL, hexL_length l]; omega
theorem hexL_append : ∀ l m, hexL (l ++ m) = hexL l ++ hexL m
  | [], m => rfl
  | b :: l, m => by simp [hexL, hexL_append l m]
end Go.Proofs.YtlkaaoekbmegkaaGreatDoor
/- strings.Builder: copyCheck, WriteByte (turned from the shelf's walks: the shelf's laying falls here, for the loader refuses a region of copyCheck's body). -/
namespace Go.Proofs.YtlkaaoekbmegkaaGreatDoor
set_option linter.all false
open Go.RowKit

set_option maxHeartbeats 1000000 in
set_option maxRecDepth 100000 in
theorem copyCheck_used (b : Nat) (w : World) (h0 : w.cell? ⟨b, 0, none⟩ = some (.pointer (some ⟨b, 0, none⟩))) :
    Calls Tryz.prog 63 #[.pointer (some ⟨b, 0, none⟩)] w fun e w' => e = .returned (.tuple #[]) ∧ w' = w := by
  obtain ⟨j, hj, _⟩ := Option.map_eq_some_iff.1 (show (Tryz.prog.info? 80).map (·.size) = some 2 by kernel_rfl)
  go_enter Tryz.func63, Tryz.ntmps63
  go_wp2
  rw [Lib.run_neq_ptr_same w _ Tryz.underlying78 hj]
  go_wp2
  go_end0
  exact ⟨rfl, rfl⟩

set_option maxHeartbeats 1000000 in
set_option maxRecDepth 100000 in
theorem copyCheck_fresh (b : Nat) (w : World) (h0 : w.cell? ⟨b, 0, none⟩ = some (.pointer none)) (hsh : w.shape? b = some (80, 2)) (hfz : w.frozen? ⟨b, 0, none⟩ = false) :
    Calls Tryz.prog 63 #[.pointer (some ⟨b, 0, none⟩)] w fun e w' => e = .returned (.tuple #[]) ∧ w' = w.setCell ⟨b, 0, none⟩ (.pointer (some ⟨b, 0, none⟩)) := by
  obtain ⟨j, hj, hjs⟩ := Option.map_eq_some_iff.1 (show (Tryz.prog.info? 80).map (·.size) = some 2 by kernel_rfl)
  go_enter Tryz.func63, Tryz.ntmps63
  go_wp2
  rw [Lib.run_to_unsafe w ⟨b, 0, none⟩ Tryz.underlying78 Tryz.underlying133 hj (by rw [hjs]; decide) hsh (Nat.zero_lt_succ 1)]
  simp only [Result.andThen]
  rw [Oper.upon_value]
  go_wp2
  rw [run_callFunc_extern Tryz.func78 (by kernel_rfl) (by kernel_rfl) (by kernel_rfl) (e := Extern.AbiNoEscape.same) (by kernel_rfl)]
  rw [Lib.run_noEscape]
  simp only [Result.andThen]
  rw [Oper.upon_value]
  go_wp2
  rw [Lib.run_from_unsafe w ⟨b, 0, none⟩ Tryz.underlying133 Tryz.underlying78 hj hsh (show liesAt Tryz.prog Tryz.prog.depth 80 (2 / Tryz.prog.cellsOf 80) 0 80 1 = true by kernel_rfl)]
  simp only [Result.andThen]
  rw [Oper.upon_value]
  go_wp2
  go_end0
  exact ⟨rfl, rfl⟩

theorem copyCheck (B b : Nat) (bs : List Value) (w : World) (h : Lib.IsBuilder 80 5 B b bs w) :
    Calls Tryz.prog 63 #[.pointer (some ⟨b, 0, none⟩)] w fun e w' => e = .returned (.tuple #[]) ∧ (Lib.BuilderAt 80 5 B b (.pointer (some ⟨b, 0, none⟩)) bs w' ∧ Below B w w') := by
  rcases h with h | h
  · refine (copyCheck_fresh b w h.cell0 h.shape h.frozen0).mono ?_
    rintro e w' ⟨rfl, rfl⟩
    exact ⟨rfl, h.used _, (Below.refl B w).setCell (p := ⟨b, 0, none⟩) h.1 _⟩
  · refine (copyCheck_used b w h.cell0).mono ?_
    rintro e w' ⟨rfl, rfl⟩
    exact ⟨rfl, h, Below.refl B _⟩

set_option maxHeartbeats 2000000 in
set_option maxRecDepth 100000 in
theorem writeByte (B b : Nat) (bs : List Value) (c : Int) (w : World) (h : Lib.IsBuilder 80 5 B b bs w) (hlen : bs.length + 1 ≤ 140737488355328) (hBw : B ≤ w.heap.size) :
    Calls Tryz.prog 64 #[.pointer (some ⟨b, 0, none⟩), .int .u8 c] w fun e w' => e = .returned .nilIface ∧ (Lib.BuilderAt 80 5 B b (.pointer (some ⟨b, 0, none⟩)) (bs ++ [.int .u8 c]) w' ∧ Below B w w') := by
  obtain ⟨i0, hi, hz0, hz1, hz2⟩ := info_parts (show (Tryz.prog.info? 5).map (fun i => (i.zero, i.size, i.bytes)) = some (some (.int .u8 0), 1, 1) by kernel_rfl)
  go_enter Tryz.func64, Tryz.ntmps64
  go_wp2_with (go_at_call 63; refine (copyCheck B b bs _ h).mono ?_)
  rintro e w1 ⟨rfl, h1, hb1⟩
  obtain ⟨hB, v, hbk, hown, hne⟩ := h1
  have c0 : w1.cell? ⟨b, 0, none⟩ = some (.pointer (some ⟨b, 0, none⟩)) := by rw [Lib.cell_of_heap hbk]; rfl
  have c1 : w1.cell? ⟨b, 1, none⟩ = some v := by rw [Lib.cell_of_heap hbk]; rfl
  go_wp2_with (at_builtin; refine wpList_append_own _ rfl _ _ 37 rfl B 5 i0 (.int .u8 0) 1 1 Tryz.underlying37 hi hz0 hz1 hz2 rfl (by decide) _ _ _ rfl (hown.alloc _) ⟨w1.heap.size, 0, none⟩ 1 1 [.int .u8 c] rfl rfl ?c1 ?c2 ?c3 ?c4 ?c5 ?_)
  case c1 =>
    intro j u hj
    match j, hj with
    | 0, hj => simp at hj; subst hj; simp [Addr.add]
  case c2 => intro u hu; simp at hu; subst hu; rfl
  case c3 => unfold maxLen; omega
  case c4 => omega
  case c5 => have := hb1.size; simp; omega
  intro v' w2 hown' hgrow _
  have hlt : b < w1.heap.size := by
    rcases Nat.lt_or_ge b w1.heap.size with h' | h'
    · exact h'
    · simp [Array.getElem?_eq_none h'] at hbk
  have hb2 : w2.heap[b]? = some (.cells #[.pointer (some ⟨b, 0, none⟩), v] 80 (0, 0)) := by
    rw [hgrow.block b (by simp; omega) (fun e => hne e.symm), Lib.alloc_old w1 _ b hlt]
    exact hbk
  have d0 : w2.cell? ⟨b, 0, none⟩ = some (.pointer (some ⟨b, 0, none⟩)) := by rw [Lib.cell_of_heap hb2]; rfl
  have d1 : w2.cell? ⟨b, 1, none⟩ = some v := by rw [Lib.cell_of_heap hb2]; rfl
  have f1 : w2.frozen? ⟨b, 1, none⟩ = false := Lib.frozen_of_heap hb2 1
  obtain ⟨g, cap, rfl⟩ : ∃ g cap, v' = .slice (some ⟨g, 0, none⟩) (bs.length + 1) cap := by
    rcases hown'.2 with ⟨_, h0⟩ | ⟨g, cap, cur, hv, _⟩
    · omega
    · exact ⟨g, cap, hv⟩
  go_wp2
  go_ret
  refine ⟨rfl, ?_, ?_⟩
  · exact Lib.BuilderAt.put (T := 80) (e := 5) hB hb2 (bs' := bs ++ [.int .u8 c]) (by simpa using hown') (by decide)
  · exact ((hb1.alloc (by have := hb1.size; omega) _).grown hgrow (by have := hb1.size; simp; omega) (fun k hk => (hown.lt k hk).1)).setCell (p := ⟨b, 1, none⟩) hB _
end Go.Proofs.YtlkaaoekbmegkaaGreatDoor
/- The library contracts, under the name that layer 2's texts import. -/
/- Two small laws that the walks of layer 2 lean on. -/
namespace Go.Proofs.YtlkaaoekbmegkaaGreatDoor
set_option linter.all false
open Go.RowKit
/-- The walk stands still at a load. -/
theorem wpList_stop_load {P : Program} {ops : Array Oper} {Q : Exit → Act → World → Prop} {a : Act} {w : World} {rest : List Oper} {o : Oper} {ty : TypeId} {x : Operand} (_ho : o.op = .load ty x) (h : Stop (wpList P ops Q (o :: rest) a w)) : wpList P ops Q (o :: rest) a w := h
theorem info20 : (Tryz.prog.info? 29).map (fun i => i.size) = some 20 := by kernel_rfl
def z20 : Array Value := (List.replicate 20 (Value.int .u8 0)).toArray
theorem zero20 (w : World) : (zeroValue 29).run Tryz.prog w = .ok (.agg z20) w := by
  unfold z20; kernel_rfl
end Go.Proofs.YtlkaaoekbmegkaaGreatDoor
/- sha.Hex: two letters a byte. -/
namespace Go.Proofs.YtlkaaoekbmegkaaGreatDoor
set_option linter.all false
open Go.RowKit

theorem index20 (l : List UInt8) (j : Nat) (hl : l.length = 20) (hj : j < 20) (w : World) : (Instr.index 29 (.agg (l.map U).toArray) (.int .i64 (j : Int))).run Tryz.prog w = .ok (U (l.getD j 0)) w := by
  have h1 : (l.map U).toArray[j]? = some (U (l.getD j 0)) := by
    simp [List.getElem?_eq_getElem (show j < l.length by omega)]
  have e : (l.map U).toArray.size = 20 := by simp; omega
  have hz : (0 : Int) ≤ (j : Int) := by omega
  have hw : IntKind.i64.wrap (j : Int) = j := IntWalk.i64_in _ (by omega)
  have hj2 : (j : Int) < 20 := by omega
  simp [go_sem, Instr.index, h1, e, run_underlying Tryz.underlying29, hw, hz, hj2]
  rw [if_pos hj, List.getElem?_eq_getElem (show j < l.length by omega)]
  rfl
def digS : ByteArray := ⟨#[48, 49, 50, 51, 52, 53, 54, 55, 56, 57, 97, 98, 99, 100, 101, 102]⟩
theorem indexDig (k : Nat) (hk : k < 16) (w : World) : (Instr.index 9 (.string digS) (.int .u8 (k : Int))).run Tryz.prog w = .ok (.int .u8 ((digs.getD k 0).toNat : Int)) w := by
  match k, hk with
  | 0, _ => exact (run_index_string w 9 digS .u8 _ Tryz.underlying9).trans rfl
  | 1, _ => exact (run_index_string w 9 digS .u8 _ Tryz.underlying9).trans rfl
  | 2, _ => exact (run_index_string w 9 digS .u8 _ Tryz.underlying9).trans rfl
  | 3, _ => exact (run_index_string w 9 digS .u8 _ Tryz.underlying9).trans rfl
  | 4, _ => exact (run_index_string w 9 digS .u8 _ Tryz.underlying9).trans rfl
  | 5, _ => exact (run_index_string w 9 digS .u8 _ Tryz.underlying9).trans rfl
  | 6, _ => exact (run_index_string w 9 digS .u8 _ Tryz.underlying9).trans rfl
  | 7, _ => exact (run_index_string w 9 digS .u8 _ Tryz.underlying9).trans rfl
  | 8, _ => exact (run_index_string w 9 digS .u8 _ Tryz.underlying9).trans rfl
  | 9, _ => exact (run_index_string w 9 digS .u8 _ Tryz.underlying9).trans rfl
  | 10, _ => exact (run_index_string w 9 digS .u8 _ Tryz.underlying9).trans rfl
  | 11, _ => exact (run_index_string w 9 digS .u8 _ Tryz.underlying9).trans rfl
  | 12, _ => exact (run_index_string w 9 digS .u8 _ Tryz.underlying9).trans rfl
  | 13, _ => exact (run_index_string w 9 digS .u8 _ Tryz.underlying9).trans rfl
  | 14, _ => exact (run_index_string w 9 digS .u8 _ Tryz.underlying9).trans rfl
  | 15, _ => exact (run_index_string w 9 digS .u8 _ Tryz.underlying9).trans rfl
  | k + 16, hk => exact absurd hk (by omega)
theorem u8_hi (u : UInt8) : (u.toNat : Int) / 16 = ((u.toNat / 16 : Nat) : Int) := by omega
theorem u8_lo (u : UInt8) : bits .and .u8 (u.toNat : Int) 15 = ((u.toNat % 16 : Nat) : Int) := by
  have h := u8_and_nat u.toNat 15 u.toNat_lt (by omega)
  rw [show ((15 : Nat) : Int) = 15 from rfl] at h
  rw [h, show (15 : Nat) = 2 ^ 4 - 1 from rfl, Nat.and_two_pow_sub_one_eq_mod]

theorem hexL_take (l : List UInt8) (k : Nat) (u : UInt8) (hk : k < l.length) (hu : l.getD k 0 = u) : hexL (l.take (k + 1)) = hexL (l.take k) ++ [digs.getD (u.toNat / 16) 0] ++ [digs.getD (u.toNat % 16) 0] := by
  have e : l.take (k + 1) = l.take k ++ [u] := by
    rw [List.take_succ, List.getElem?_eq_getElem hk, ← hu]
    simp [List.getElem?_eq_getElem hk]
  rw [e, hexL_append]
  simp [hexL]
theorem byteCells_snoc (X : List UInt8) (d : UInt8) : Lib.byteCells X ++ [.int .u8 (d.toNat : Int)] = Lib.byteCells (X ++ [d]) := by simp [Lib.byteCells]

set_option maxHeartbeats 2000000 in
set_option maxRecDepth 100000 in
theorem shaHex (l : List UInt8) (h20 : l.length = 20) (w : World) :
    Calls Tryz.prog 34 #[.agg (l.map U).toArray] w fun e w' => e = .returned (.string ⟨(hexL l).toArray⟩) ∧ Below w.heap.size w w' := by
  go_enter Tryz.func34, Tryz.ntmps34
  go_wp2_with (with_reducible refine wpList_stop_load (ty := 29) (x := .tmp 1) rfl ?_)
  have hS := ((Sep.start w).allocC (l.map U).toArray 29).allocC #[.pointer none, .slice none 0 0] 80
  rw [show (w.alloc (.cells (l.map U).toArray 29)).heap.size = w.heap.size + 1 from World.size_alloc _ _] at hS
  refine unstop (wpList_load_row rfl 29 (.tmp 1) rfl w.heap.size rfl 29 (l.map U).toArray (0, 0) _ (hS.blk 0 rfl) Tryz.underlying29 rfl (by rw [show (l.map U).toArray.size = 20 by simp [h20]]; exact info20) ?_)
  have hb : Lib.IsBuilder 80 5 w.heap.size (w.heap.size + 1) (Lib.byteCells (hexL [])) ((w.alloc (.cells (l.map U).toArray 29)).alloc (.cells #[.pointer none, .slice none 0 0] 80)) :=
    Or.inl ⟨by omega, .slice none 0 0, hS.blk 1 rfl, World.ownsRow_nil _ _ _ _, by simp [Value.ownBlock]⟩
  have hB := hS.below
  clear hS
  go_wp2
  go_loopw [7] (fun i wr => ∃ k : Nat, k ≤ 20 ∧ i = .int .i64 k ∧ Lib.IsBuilder 80 5 w.heap.size (w.heap.size + 1) (Lib.byteCells (hexL (l.take k))) wr ∧ Below w.heap.size w wr)
    (fun i _ => 20 - (intOf i).toNat)
  case atStart => exact ⟨0, by omega, rfl, by simpa using hb, hB⟩
  case round =>
    clear hb hB
    obtain ⟨k, hk, rfl, hb, hB⟩ := hrel
    by_cases hlt : k < 20
    · obtain ⟨u, hu⟩ : ∃ u, l.getD k 0 = u := ⟨_, rfl⟩
      have hx : ∀ w, (Instr.index 29 (.agg (l.map U).toArray) (.int .i64 (k : Int))).run Tryz.prog w = .ok (.int .u8 (u.toNat : Int)) w := by
        rw [← hu]; exact index20 l k h20 hlt
      have h1 : ∀ w, (Instr.index 9 (.string ⟨#[48, 49, 50, 51, 52, 53, 54, 55, 56, 57, 97, 98, 99, 100, 101, 102]⟩) (.int .u8 ((u.toNat : Int) / 16))).run Tryz.prog w = .ok (.int .u8 ((digs.getD (u.toNat / 16) 0).toNat : Int)) w := fun w => by
        have := u.toNat_lt
        rw [u8_hi]; exact indexDig _ (by omega) w
      have h2 : ∀ w, (Instr.index 9 (.string ⟨#[48, 49, 50, 51, 52, 53, 54, 55, 56, 57, 97, 98, 99, 100, 101, 102]⟩) (.int .u8 (bits .and .u8 (u.toNat : Int) 15))).run Tryz.prog w = .ok (.int .u8 ((digs.getD (u.toNat % 16) 0).toNat : Int)) w := fun w => by
        rw [u8_lo]; exact indexDig _ (by omega) w
      have htk := hide (hexL_take l k u (by omega) hu)
      have hle := hide (show (hexL (l.take k)).length ≤ 40 by rw [hexL_length, List.length_take]; omega)
      generalize hexL (l.take k) = X at *
      generalize digs.getD (u.toNat / 16) 0 = d1 at *
      generalize digs.getD (u.toNat % 16) 0 = d2 at *
      go_wp2_with (at_builtin; refine stopAt ?_)
      refine (writeByte w.heap.size (w.heap.size + 1) (Lib.byteCells X) _ wr hb (by rw [Lib.byteCells_length]; have := hle.out; omega) hB.size).mono ?_
      rintro e w1 ⟨rfl, hb1, hB1⟩
      rw [byteCells_snoc] at hb1
      replace hB := hB.trans hB1
      clear hb hB1
      go_wp2_with (at_builtin; refine stopAt ?_)
      refine (writeByte w.heap.size (w.heap.size + 1) (Lib.byteCells (X ++ [d1])) _ w1 (.inr hb1) (by rw [Lib.byteCells_length, List.length_append]; have := hle.out; simp; omega) hB.size).mono ?_
      rintro e w2 ⟨rfl, hb2, hB2⟩
      rw [byteCells_snoc] at hb2
      replace hB := hB.trans hB2
      clear hb1 hB2
      go_wp2
      go_roundw
      case rel => exact ⟨k + 1, by omega, rfl, .inr (by rw [htk.out]; exact hb2), hB⟩
      case measure => simp [intOf]; omega
    · obtain rfl : k = 20 := by omega
      rw [List.take_of_length_le (by omega)] at hb
      go_wp2_with (at_builtin; refine stopAt ?_)
      refine (Tryz.Builder_String_any w.heap.size (w.heap.size + 1) (hexL l) wr hb hB.size).mono ?_
      rintro e w1 ⟨rfl, hB1⟩
      replace hB := hB.trans hB1
      go_wp2
      go_ret
      exact ⟨rfl, hB⟩
end Go.Proofs.YtlkaaoekbmegkaaGreatDoor
/- sha.Hex as a contract on abstract values. -/
namespace Go.Proofs.YtlkaaoekbmegkaaGreatDoor
set_option linter.all false
open Go.RowKit
theorem blob_U (l : List UInt8) (w : World) (S : Nat → Prop) (ρ : Rho) : Vl w S ρ (.blob (l.map U)) (.agg (l.map U).toArray) :=
  Vl.blob' _ fun u hu => by obtain ⟨x, _, rfl⟩ := List.mem_map.1 hu; rfl
def hexS : Spec := fun xs hp => match xs, hp with
  | [.blob cs], [] => some ⟨.str (hexL (unV cs)), [], cs = (unV cs).map U ∧ cs.length = 20⟩
  | _, _ => none
theorem hex_ok : FnOk Tryz.prog 34 hexS := by
  refine fnok_of_calls fun xs0 hp r hs hp' => ?_
  unfold hexS at hs
  split at hs
  · rename_i cs
    injection hs with hs; subst hs
    obtain ⟨p1, p2⟩ := hp'
    refine ⟨rfl, rfl, fun w S ρ args hS ha => ?_⟩
    obtain ⟨v, vs, rfl, hv, hr⟩ := ha.get _ _ rfl
    obtain rfl := hr.none
    generalize unV cs = l at *
    subst p1
    rw [hv.blob]
    refine (shaHex l (by simpa using p2) w).mono ?_
    rintro e w' ⟨rfl, hb⟩
    exact ⟨_, rfl, hb, fun w' S ρ => Vl.str' _⟩
  · cases hs
end Go.Proofs.YtlkaaoekbmegkaaGreatDoor
/- Package commit on abstract values: zones, persons, texts, further lines. -/
namespace Go.Proofs.YtlkaaoekbmegkaaGreatDoor
set_option linter.all false
open Go.RowKit
open Go.Lib (index hasPrefix cut indexAny itoa)
def zonB (z : List UInt8) : Bool := decide (z.length = 5) && (decide ((z.getD 0 0).toNat = 43) || decide ((z.getD 0 0).toNat = 45)) && (z.drop 1).all digB
def zonedS : Spec := fun xs hp => match xs, hp with
  | [.str z], [] => some ⟨.bool (zonB z), [], True⟩
  | _, _ => none
theorem zoned_ok : FnOk Tryz.prog 67 zonedS := by
  refine fn_slim2 Tryz.func67 s_czoned (Φ := phiL [(82, [], cfZoneS)]) (phi_cons cfZone_ok (by kernel_rfl) phi_nil) ?_
  intro xs hp r hs hp'
  unfold zonedS at hs
  split at hs
  · injection hs with hs; subst hs
    rename_i z
    refine ⟨len_le (by kernel_rfl), ?_⟩
    by_cases h5 : z.length = 5
    · have d5 : decide ((z.length : Int) = 5) = true := decide_eq_true (by omega)
      have e5 : decide (z.length = 5) = true := decide_eq_true h5
      have et : z.take 5 = z := List.take_of_length_le (by omega)
      have e1 : decide (at8 z 0 = 43) = decide ((z.getD 0 0).toNat = 43) := by unfold at8; rw [Bool.eq_iff_iff]; simp; omega
      have e2 : decide (at8 z 0 = 45) = decide ((z.getD 0 0).toNat = 45) := by unfold at8; rw [Bool.eq_iff_iff]; simp; omega
      unfold zonB
      rw [e5]
      cases h1 : decide ((z.getD 0 0).toNat = 43) <;> cases h2 : decide ((z.getD 0 0).toNat = 45) <;> rw [h1] at e1 <;> rw [h2] at e2
      all_goals (
        simp only [c_czoned, r_czoned, cfZoneS, d5, e1, e2, h5, et, Bool.not_not, Bool.true_or, Bool.or_true, Bool.or_self, go_sem, Nat.reduceDiv, Nat.reduceMod, ↓reduceIte, Nat.reduceEqDiff, Nat.reduceBEq, Nat.reduceSub, Nat.reduceLT, Nat.reduceAdd, Nat.reduceLeDiff, reduceCtorEq, Int.reduceEq, Int.reduceNe, Int.reduceLT, Int.reduceLE, Int.reduceToNat]
        repeat' apply And.intro
        all_goals first | omega | rfl | trivial)
    · have d5 : decide ((z.length : Int) = 5) = false := decide_eq_false (by omega)
      have e5 : decide (z.length = 5) = false := decide_eq_false h5
      unfold zonB
      rw [e5]
      simp only [c_czoned, r_czoned, cfZoneS, d5, go_sem, Nat.reduceDiv, Nat.reduceMod, ↓reduceIte, Nat.reduceEqDiff, Nat.reduceBEq, Nat.reduceSub, Nat.reduceLT, Nat.reduceAdd, Nat.reduceLeDiff, reduceCtorEq, Int.reduceEq, Int.reduceNe, Int.reduceLT, Int.reduceLE, Int.reduceToNat]
  · cases hs
/-! ### strings.ContainsAny -/
/-- Has a text one of some signs? -/
def hasL (p s : List UInt8) : Bool := s.any fun b => p.contains b
def canyS : Spec := fun xs hp => match xs, hp with
  | [.str s, .str p], [] => some ⟨.bool (hasL p s), [], asciiB p = true ∧ s.length < 4294967281⟩
  | _, _ => none
theorem indexAny_any (p : List UInt8) : ∀ s : List UInt8, decide (0 ≤ indexAny s p) = hasL p s
  | [] => rfl
  | b :: s => by
    have ih := indexAny_any p s
    have hg := Lib.indexAny_ge p s
    unfold hasL at ih ⊢
    unfold indexAny
    cases hc : p.contains b with
    | true => rw [if_pos rfl, List.any_cons, hc]; simp
    | false =>
      rw [if_neg (by simp), List.any_cons, hc, Bool.false_or, ← ih]
      by_cases h1 : indexAny s p = -1
      · rw [if_pos (by rw [h1]; rfl), h1]
      · rw [if_neg (by simpa using h1)]
        rw [decide_eq_true (show (0 : Int) ≤ indexAny s p by omega), decide_eq_true (show (0 : Int) ≤ indexAny s p + 1 by omega)]
theorem cany_ok : FnOk Tryz.prog 61 canyS := by
  refine fn_slim2 Tryz.func61 s_scany (Φ := phiL [(76, [], idxAnyS)]) (phi_cons idxAny_ok (by kernel_rfl) phi_nil) ?_
  intro xs hp r hs hp'
  unfold canyS at hs
  split at hs
  · injection hs with hs; subst hs
    rename_i s p
    refine ⟨len_le (by kernel_rfl), ?_⟩
    obtain ⟨p1, p2⟩ := hp'
    simp only [c_scany, r_scany, idxAnyS, indexAny_any, go_sem, Nat.reduceDiv, Nat.reduceMod, ↓reduceIte, Nat.reduceEqDiff, Nat.reduceBEq, Nat.reduceSub, Nat.reduceLT, Nat.reduceAdd, Nat.reduceLeDiff, reduceCtorEq, Int.reduceEq, Int.reduceNe, Int.reduceLT, Int.reduceLE, Int.reduceToNat]
    exact ⟨p1, p2⟩
  · cases hs
/-! ### Persons -/
structure WhoL where
  name : List UInt8
  mail : List UInt8
  time : Int
  zone : List UInt8
def whoP (w : WhoL) : List (Nat × AV) := [(1, .str w.name), (1, .str w.mail), (1, .int .i64 w.time), (1, .str w.zone)]
def rightW (w : WhoL) : Bool := !hasL [60, 62, 10] (w.name ++ w.mail) && decide (0 ≤ w.time) && decide (w.time < 4611686018427387904) && zonB w.zone
def textW (w : WhoL) : List UInt8 := w.name ++ [32, 60] ++ w.mail ++ [62, 32] ++ itoa w.time ++ [32] ++ w.zone
def crightS : Spec := fun xs hp => match xs, hp with
  | [.agg [(1, .str n), (1, .str m), (1, .int .i64 t), (1, .str z)]], [] => some ⟨.bool (rightW ⟨n, m, t, z⟩), [], n.length + m.length < 4294967281⟩
  | _, _ => none
theorem cright_ok : FnOk Tryz.prog 40 crightS := by
  refine fn_slim2 Tryz.func40 s_cright (Φ := phiL [(61, [], canyS), (67, [], zonedS)]) (phi_cons cany_ok (by kernel_rfl) (phi_cons zoned_ok (by kernel_rfl) phi_nil)) ?_
  intro xs hp r hs hp'
  unfold crightS at hs
  split at hs
  · injection hs with hs; subst hs
    rename_i n m t z
    have p1 : n.length + m.length < 4294967281 := hp'
    refine ⟨len_le (by kernel_rfl), ?_⟩
    have ha : asciiB [60, 62, 10] = true := by decide
    unfold rightW
    simp only
    cases h1 : hasL [60, 62, 10] (n ++ m) <;> cases h2 : decide (0 ≤ t) <;> cases h3 : decide (t < 4611686018427387904)
    all_goals (
      simp only [c_cright, r_cright, canyS, zonedS, ha, h1, h2, h3, List.length_append, go_sem, Nat.reduceDiv, Nat.reduceMod, ↓reduceIte, Nat.reduceEqDiff, Nat.reduceBEq, Nat.reduceSub, Nat.reduceLT, Nat.reduceAdd, Nat.reduceLeDiff, reduceCtorEq, Int.reduceEq, Int.reduceNe, Int.reduceLT, Int.reduceLE, Int.reduceToNat]
      repeat' apply And.intro
      all_goals first | omega | rfl | trivial | (first | omega | (simp only [lenOk, bytesOk, inI, IntKind.bits, List.length_append, Bs_len, List.length_cons, List.length_nil, List.length_map, List.length_take, List.length_drop, List.length_replicate]; omega)) | skip)
  · cases hs
def textR (w : WhoL) (pr : Prop) : Option Ret := some ⟨.tup [.str (if rightW w = true then textW w else []), .int .i64 (if rightW w = true then 0 else 4)], [], pr⟩
def textS : Spec := fun xs hp => match xs, hp with
  | [.agg [(1, .str n), (1, .str m), (1, .int .i64 t), (1, .str z)]], [] => textR ⟨n, m, t, z⟩ (n.length + m.length + z.length < 4294967000)
  | _, _ => none
theorem rightW_time {w : WhoL} (h : rightW w = true) : 0 ≤ w.time ∧ w.time < 4611686018427387904 := by
  unfold rightW at h
  simp only [Bool.and_eq_true, decide_eq_true_eq] at h
  exact ⟨h.1.1.2, h.1.2⟩
theorem ctext_ok : FnOk Tryz.prog 15 textS := by
  refine fn_slim2 Tryz.func15 s_ctext (Φ := phiL [(40, [], crightS), (41, [], itoaS)]) (phi_cons cright_ok (by kernel_rfl) (phi_cons ndec_ok (by kernel_rfl) phi_nil)) ?_
  intro xs hp r hs hp'
  unfold textS textR at hs
  split at hs
  · injection hs with hs; subst hs
    rename_i n m t z
    have p1 : n.length + m.length + z.length < 4294967000 := hp'
    refine ⟨len_le (by kernel_rfl), ?_⟩
    cases h : rightW ⟨n, m, t, z⟩ with
    | false =>
      simp only [c_ctext, r_ctext, crightS, itoaS, h, go_sem, Nat.reduceDiv, Nat.reduceMod, ↓reduceIte, Nat.reduceEqDiff, Nat.reduceBEq, Nat.reduceSub, Nat.reduceLT, Nat.reduceAdd, Nat.reduceLeDiff, reduceCtorEq, Int.reduceEq, Int.reduceNe, Int.reduceLT, Int.reduceLE, Int.reduceToNat]
      omega
    | true =>
      obtain ⟨h1, h2⟩ := rightW_time h
      have hi := Lib.itoa_length_le t (by simp only at h1; omega) (by simp only at h2; omega)
      simp only at h1 h2
      simp only [c_ctext, r_ctext, crightS, itoaS, h, textW, go_sem, Nat.reduceDiv, Nat.reduceMod, ↓reduceIte, Nat.reduceEqDiff, Nat.reduceBEq, Nat.reduceSub, Nat.reduceLT, Nat.reduceAdd, Nat.reduceLeDiff, reduceCtorEq, Int.reduceEq, Int.reduceNe, Int.reduceLT, Int.reduceLE, Int.reduceToNat]
      simp only [List.length_append, List.length_cons, List.length_nil]
      repeat' apply And.intro
      all_goals first | omega | rfl | (first | omega | (simp only [lenOk, bytesOk, inI, IntKind.bits, List.length_append, Bs_len, List.length_cons, List.length_nil, List.length_map, List.length_take, List.length_drop, List.length_replicate]; omega)) | (simp; done)
  · cases hs
/-! ### Further lines -/
def ixsS : Spec := fun xs hp => match xs, hp with
  | [.sl 1 ps, .str q], [] => some ⟨.int .i64 (if (ps.map unS).contains q = true then ((ps.map unS).idxOf q : Int) else -1), [], ps = (ps.map unS).map AV.str ∧ ps.length ≤ 1000000⟩
  | _, _ => none
theorem ixs_ok : FnOk Tryz.prog 77 ixsS := by
  refine fn_slim2 Tryz.func77 s_ixs (Φ := phiL []) phi_nil ?_
  intro xs hp r hs hp'
  unfold ixsS at hs
  split at hs
  · injection hs with hs; subst hs
    rename_i qs q
    obtain ⟨p1, p2⟩ := hp'
    refine ⟨len_le (by kernel_rfl), ?_⟩
    generalize qs.map unS = ps at *
    subst p1
    rw [List.length_map] at p2
    simp only [c_ixs, go_sem, Nat.reduceDiv, Nat.reduceMod, ↓reduceIte, Nat.reduceEqDiff, Nat.reduceBEq, Nat.reduceSub, Nat.reduceLT, Nat.reduceAdd, Nat.reduceLeDiff, reduceCtorEq, Int.reduceEq, Int.reduceNe, Int.reduceLT, Int.reduceLE, Int.reduceToNat]
    refine loop2P [] [0, 1, 7, 8] [] (fun i : Nat => ⟨[(0, .sl 1 (ps.map AV.str)), (1, .str q), (7, .int .i64 (ps.length : Int)), (8, .int .i64 (i : Int))], []⟩) (fun i => i ≤ ps.idxOf q) (fun i => ps.length - i) 0 rfl (by omega) ⟨rfl, rfl⟩ (fun i hi R hR => ?_)
    have hle := List.idxOf_le_length (l := ps) (a := q)
    by_cases hil : i < ps.length
    · have c1 : decide ((i : Int) < (ps.length : Int)) = true := decide_eq_true (by omega)
      have hget : (ps.map AV.str).getD i (.str []) = .str (ps.getD i []) := by
        simp [List.getD_eq_getElem?_getD, List.getElem?_map, List.getElem?_eq_getElem hil]
      have hga : ps.getD i [] = ps[i] := by simp [List.getD_eq_getElem?_getD, List.getElem?_eq_getElem hil]
      simp only [b_ixs_0, r_ixs, t_ixs_0, c1, hget, hga, Int.toNat_natCast, go_sem, Nat.reduceDiv, Nat.reduceMod, ↓reduceIte, Nat.reduceEqDiff, Nat.reduceBEq, Nat.reduceSub, Nat.reduceLT, Nat.reduceAdd, Nat.reduceLeDiff, reduceCtorEq, Int.reduceEq, Int.reduceNe, Int.reduceLT, Int.reduceLE, Int.reduceToNat]
      refine ⟨⟨by omega, by omega⟩, fun hb => ?_, fun hb => ?_⟩
      · have hb := of_decide_eq_true hb
        have hf : ps.idxOf q = i := by
          rcases Nat.lt_or_ge i (ps.idxOf q) with h | h
          · have := List.not_of_lt_findIdx h
            simp [hb] at this
          · omega
        have hc : ps.contains q = true := by rw [List.contains_iff_mem, hb]; exact List.getElem_mem _
        simp only [hc, hf, if_true]
      · have hb := of_decide_eq_false hb
        refine ⟨by (first | omega | (simp only [lenOk, bytesOk, inI, IntKind.bits, List.length_append, Bs_len, List.length_cons, List.length_nil, List.length_map, List.length_take, List.length_drop, List.length_replicate]; omega)), hR _ (i + 1) ?_ (by omega) rfl⟩
        rcases Nat.lt_or_ge i (ps.idxOf q) with h | h
        · exact h
        · have e : ps.idxOf q = i := by omega
          have := List.getElem_idxOf (x := q) (xs := ps) (by omega)
          simp only [e] at this
          exact absurd this.symm hb
    · have c1 : decide ((i : Int) < (ps.length : Int)) = false := decide_eq_false (by omega)
      have hc : ps.contains q = false := by
        rw [Bool.eq_false_iff]
        intro h
        rw [List.contains_iff_mem] at h
        have := List.idxOf_lt_length_of_mem h
        omega
      simp only [b_ixs_0, r_ixs, t_ixs_0, c1, hc, Bool.false_eq_true, if_false, go_sem, Nat.reduceDiv, Nat.reduceMod, ↓reduceIte, Nat.reduceEqDiff, Nat.reduceBEq, Nat.reduceSub, Nat.reduceLT, Nat.reduceAdd, Nat.reduceLeDiff, reduceCtorEq, Int.reduceEq, Int.reduceNe, Int.reduceLT, Int.reduceLE, Int.reduceToNat]
  · cases hs
def consS : Spec := fun xs hp => match xs, hp with
  | [.sl 1 ps, .str q], [] => some ⟨.bool ((ps.map unS).contains q), [], ps = (ps.map unS).map AV.str ∧ ps.length ≤ 1000000⟩
  | _, _ => none
theorem cons_ok : FnOk Tryz.prog 62 consS := by
  refine fn_slim2 Tryz.func62 s_cons (Φ := phiL [(77, [], ixsS)]) (phi_cons ixs_ok (by kernel_rfl) phi_nil) ?_
  intro xs hp r hs hp'
  unfold consS at hs
  split at hs
  · injection hs with hs; subst hs
    rename_i ps q
    obtain ⟨p1, p2⟩ := hp'
    refine ⟨len_le (by kernel_rfl), ?_⟩
    cases hc : (ps.map unS).contains q with
    | true =>
      have d : decide ((0 : Int) ≤ (((ps.map unS).idxOf q : Nat) : Int)) = true := decide_eq_true (by omega)
      simp only [c_cons, r_cons, ixsS, hc, d, if_true, go_sem, Nat.reduceDiv, Nat.reduceMod, ↓reduceIte, Nat.reduceEqDiff, Nat.reduceBEq, Nat.reduceSub, Nat.reduceLT, Nat.reduceAdd, Nat.reduceLeDiff, reduceCtorEq, Int.reduceEq, Int.reduceNe, Int.reduceLT, Int.reduceLE, Int.reduceToNat]
      exact ⟨p1, p2⟩
    | false =>
      simp only [c_cons, r_cons, ixsS, hc, Bool.false_eq_true, if_false, go_sem, Nat.reduceDiv, Nat.reduceMod, ↓reduceIte, Nat.reduceEqDiff, Nat.reduceBEq, Nat.reduceSub, Nat.reduceLT, Nat.reduceAdd, Nat.reduceLeDiff, reduceCtorEq, Int.reduceEq, Int.reduceNe, Int.reduceLT, Int.reduceLE, Int.reduceToNat]
      exact ⟨p1, p2⟩
  · cases hs
def keyB (k : List UInt8) : Bool := ([[116, 114, 101, 101], [112, 97, 114, 101, 110, 116], [97, 117, 116, 104, 111, 114], [99, 111, 109, 109, 105, 116, 116, 101, 114]] : List (List UInt8)).contains k
theorem keyB_eq (k : List UInt8) : (k == [116, 114, 101, 101] || (k == [112, 97, 114, 101, 110, 116] || (k == [97, 117, 116, 104, 111, 114] || k == [99, 111, 109, 109, 105, 116, 116, 101, 114]))) = keyB k := by
  unfold keyB
  simp only [List.contains_cons, List.contains_nil, Bool.or_false]
def extraB (k : List UInt8) : Bool := decide (k ≠ []) && !hasL [32, 10] k && !keyB k
def cextraS : Spec := fun xs hp => match xs, hp with
  | [.agg [(1, .str k), (1, .str v)]], [] => some ⟨.bool (extraB k), [], k.length < 4294967281⟩
  | _, _ => none
theorem cextra_ok : FnOk Tryz.prog 32 cextraS := by
  refine fn_slim2 Tryz.func32 s_cextra (Φ := phiL [(61, [], canyS), (62, [], consS)]) (phi_cons cany_ok (by kernel_rfl) (phi_cons cons_ok (by kernel_rfl) phi_nil)) ?_
  intro xs hp r hs hp'
  unfold cextraS at hs
  split at hs
  · injection hs with hs; subst hs
    rename_i k v
    have p1 : k.length < 4294967281 := hp'
    refine ⟨len_le (by kernel_rfl), ?_⟩
    have ha : asciiB [32, 10] = true := by decide
    unfold extraB
    by_cases h0 : k = []
    · subst h0
      simp only [c_cextra, r_cextra, canyS, consS, decide_true, go_sem, Nat.reduceDiv, Nat.reduceMod, ↓reduceIte, Nat.reduceEqDiff, Nat.reduceBEq, Nat.reduceSub, Nat.reduceLT, Nat.reduceAdd, Nat.reduceLeDiff, reduceCtorEq, Int.reduceEq, Int.reduceNe, Int.reduceLT, Int.reduceLE, Int.reduceToNat]
      rfl
    · have d0 : decide (k = []) = false := decide_eq_false h0
      have d1 : decide (k ≠ []) = true := decide_eq_true h0
      rw [d1]
      cases h1 : hasL [32, 10] k
      all_goals (
        simp only [c_cextra, r_cextra, canyS, consS, ha, h1, d0, unS, keyB_eq, go_sem, Nat.reduceDiv, Nat.reduceMod, ↓reduceIte, Nat.reduceEqDiff, Nat.reduceBEq, Nat.reduceSub, Nat.reduceLT, Nat.reduceAdd, Nat.reduceLeDiff, reduceCtorEq, Int.reduceEq, Int.reduceNe, Int.reduceLT, Int.reduceLE, Int.reduceToNat]
        repeat' apply And.intro
        all_goals first | omega | rfl | trivial | (first | omega | (simp only [lenOk, bytesOk, inI, IntKind.bits, List.length_append, Bs_len, List.length_cons, List.length_nil, List.length_map, List.length_take, List.length_drop, List.length_replicate]; omega)) | skip)
  · cases hs
def cprn1S : Spec := fun xs hp => match xs, hp with
  | [.agg [(1, .str k), (1, .str v)]], [] => some ⟨.bool (!extraB k), [], k.length < 4294967281⟩
  | _, _ => none
theorem cprn1_ok : FnOk Tryz.prog 31 cprn1S := by
  refine fn_slim2 Tryz.func31 s_cprn1 (Φ := phiL [(32, [], cextraS)]) (phi_cons cextra_ok (by kernel_rfl) phi_nil) ?_
  intro xs hp r hs hp'
  unfold cprn1S at hs
  split at hs
  · injection hs with hs; subst hs
    rename_i k v
    have p1 : k.length < 4294967281 := hp'
    refine ⟨len_le (by kernel_rfl), ?_⟩
    simp only [c_cprn1, r_cprn1, cextraS, go_sem, Nat.reduceDiv, Nat.reduceMod, ↓reduceIte, Nat.reduceEqDiff, Nat.reduceBEq, Nat.reduceSub, Nat.reduceLT, Nat.reduceAdd, Nat.reduceLeDiff, reduceCtorEq, Int.reduceEq, Int.reduceNe, Int.reduceLT, Int.reduceLE, Int.reduceToNat]
    exact p1
  · cases hs
end Go.Proofs.YtlkaaoekbmegkaaGreatDoor
