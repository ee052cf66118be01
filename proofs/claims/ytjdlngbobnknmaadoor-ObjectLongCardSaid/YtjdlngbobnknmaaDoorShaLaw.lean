/- Layer 2's sum in plain words: numbers below 2^32, no program. -/
import Derived.Test.YtjdlngbobnknmaaDoorParse
namespace Go.Proofs.YtjdlngbobnknmaaDoor
set_option linter.all false
open Go.RowKit

/-- A number's bits turned to the left. -/
def rot : Nat → Nat → Nat
  | x, 0 => x
  | x, n + 1 => 2 * rot x n % 4294967296 + 2 * rot x n / 4294967296
theorem rot_lt (x : Nat) (h : x < 4294967296) : ∀ n, rot x n < 4294967296
  | 0 => h
  | n + 1 => by
    have := rot_lt x h n
    simp only [rot]
    omega

theorem rot_form (x : Nat) : ∀ (n s t u v : Nat), s = 2 ^ n → s * t = 4294967296 → v < t → u < s → x = u * t + v → rot x n = v * s + u
  | 0, s, t, u, v, hs, hst, hv, hu, hx => by
    simp at hs
    subst hs
    obtain rfl : u = 0 := by omega
    simp [rot, hx]
  | n + 1, s, t, u, v, hs, hst, hv, hu, hx => by
    obtain ⟨s0, hs0⟩ : ∃ s0, s0 = 2 ^ n := ⟨_, rfl⟩
    have hs2 : s = 2 * s0 := by rw [hs, hs0, Nat.pow_succ]; omega
    subst hs2
    have hp : s0 * (2 * t) = 4294967296 := by rw [← hst]; simp [Nat.mul_assoc, Nat.mul_comm, Nat.mul_left_comm]
    have hp2 : 2 * (s0 * t) = 4294967296 := by rw [← hst]; simp [Nat.mul_assoc]
    obtain ⟨c, u0, hc, hu0⟩ : ∃ c u0, c < 2 ∧ u = 2 * u0 + c := ⟨u % 2, u / 2, by omega, by omega⟩
    have hu1 : u0 < s0 := by omega
    have hv0 : c * t + v < 2 * t := by
      rcases (show c = 0 ∨ c = 1 by omega) with rfl | rfl <;> omega
    have hx0 : x = u0 * (2 * t) + (c * t + v) := by
      rw [hx, hu0, Nat.add_mul]; simp [Nat.mul_assoc, Nat.mul_left_comm, Nat.add_assoc]
    have ih := rot_form x n s0 (2 * t) u0 (c * t + v) hs0 hp hv0 hu1 hx0
    have hb : s0 * v + s0 ≤ s0 * t := by rw [← Nat.mul_succ]; exact Nat.mul_le_mul_left _ hv
    have e : (c * t + v) * s0 = c * (s0 * t) + s0 * v := by rw [Nat.add_mul, Nat.mul_assoc, Nat.mul_comm t, Nat.mul_comm v]
    have e2 : v * (2 * s0) = 2 * (s0 * v) := by rw [Nat.mul_left_comm, Nat.mul_comm v]
    simp only [rot]
    rw [ih, e, e2]
    generalize s0 * t = P at *
    generalize s0 * v = Q at *
    rcases (show c = 0 ∨ c = 1 by omega) with rfl | rfl
    · simp only [Nat.zero_mul, Nat.zero_add]
      omega
    · simp only [Nat.one_mul]
      omega

/-- As the machine's shifts make it. -/
theorem rot_shift (x n : Nat) (hx : x < 4294967296) (hn : n ≤ 31) : (x * 2 ^ n % 4294967296) ||| (x / 2 ^ (32 - n)) = rot x n := by
  have hst : 2 ^ n * 2 ^ (32 - n) = 4294967296 := by rw [← Nat.pow_add, show n + (32 - n) = 32 by omega]
  have hu : x / 2 ^ (32 - n) < 2 ^ n := by
    rw [Nat.div_lt_iff_lt_mul (Nat.two_pow_pos _), hst]; exact hx
  have hf := rot_form x n (2 ^ n) (2 ^ (32 - n)) (x / 2 ^ (32 - n)) (x % 2 ^ (32 - n)) rfl hst (Nat.mod_lt _ (Nat.two_pow_pos _)) hu (by rw [Nat.mul_comm]; exact (Nat.div_add_mod _ _).symm)
  have e : x * 2 ^ n % 4294967296 = (x % 2 ^ (32 - n)) <<< n := by
    rw [← hst, Nat.mul_comm x, Nat.mul_mod_mul_left, Nat.shiftLeft_eq, Nat.mul_comm]
  rw [hf, e, ← Nat.shiftLeft_add_eq_or_of_lt hu, Nat.shiftLeft_eq]

/-- The five numbers. -/
structure ShSt where
  a : Nat
  b : Nat
  c : Nat
  d : Nat
  e : Nat
def ShSt.ok (s : ShSt) : Prop := s.a < 4294967296 ∧ s.b < 4294967296 ∧ s.c < 4294967296 ∧ s.d < 4294967296 ∧ s.e < 4294967296
def stepF (i b c d : Nat) : Nat :=
  if i < 20 then (b &&& c) ||| ((4294967295 - b) &&& d) else if i < 40 then b ^^^ c ^^^ d else if i < 60 then (b &&& c) ||| (b &&& d) ||| (c &&& d) else b ^^^ c ^^^ d
def stepK (i : Nat) : Nat := if i < 20 then 1518500249 else if i < 40 then 1859775393 else if i < 60 then 2400959708 else 3395469782
def rnd (i x : Nat) (s : ShSt) : ShSt := ⟨(rot s.a 5 + stepF i s.b s.c s.d + s.e + stepK i + x) % 4294967296, s.a, rot s.b 30, s.c, s.d⟩
def rnds : Nat → List Nat → ShSt → ShSt
  | _, [], s => s
  | i, x :: xs, s => rnds (i + 1) xs (rnd i x s)
def word (p : List UInt8) (i : Nat) : Nat := (p.getD (4 * i) 0).toNat * 16777216 + (p.getD (4 * i + 1) 0).toNat * 65536 + (p.getD (4 * i + 2) 0).toNat * 256 + (p.getD (4 * i + 3) 0).toNat
def first16 (p : List UInt8) : List Nat := (List.range 16).map (word p)
def nextW (L : List Nat) (i : Nat) : Nat := rot (L.getD (i - 3) 0 ^^^ L.getD (i - 8) 0 ^^^ L.getD (i - 14) 0 ^^^ L.getD (i - 16) 0) 1
def ext : Nat → List Nat → List Nat
  | 0, L => L
  | n + 1, L => ext n (L ++ [nextW L L.length])
def sched (p : List UInt8) : List Nat := ext 64 (first16 p)
def blockStep (p : List UInt8) (h : ShSt) : ShSt :=
  let s := rnds 0 (sched p) h
  ⟨(h.a + s.a) % 4294967296, (h.b + s.b) % 4294967296, (h.c + s.c) % 4294967296, (h.d + s.d) % 4294967296, (h.e + s.e) % 4294967296⟩
def chunk (l : List UInt8) (k : Nat) : List UInt8 := (l.drop (64 * k)).take 64
def hashB (n : Nat) (l : List UInt8) (h : ShSt) : ShSt := ((List.range n).map (chunk l)).foldl (fun h p => blockStep p h) h
def padZ (n : Nat) : Nat := (119 - n % 64) % 64
def padded (l : List UInt8) : List UInt8 := l ++ [128] ++ List.replicate (padZ l.length) 0 ++ be 8 (8 * l.length)
def st0 : ShSt := ⟨1732584193, 4023233417, 2562383102, 271733878, 3285377520⟩
def shaSt (l : List UInt8) : ShSt := hashB ((padded l).length / 64) (padded l) st0
def ShSt.bytes (s : ShSt) : List UInt8 := be 4 s.a ++ be 4 s.b ++ be 4 s.c ++ be 4 s.d ++ be 4 s.e
/-- The sum of bytes. -/
def sha (l : List UInt8) : List UInt8 := (shaSt l).bytes

theorem stepF_lt (i b c d : Nat) (hb : b < 4294967296) (hc : c < 4294967296) (hd : d < 4294967296) : stepF i b c d < 4294967296 := by
  have e : (4294967296 : Nat) = 2 ^ 32 := rfl
  rw [e] at hb hc hd ⊢
  unfold stepF
  split
  · exact Nat.or_lt_two_pow (Nat.and_lt_two_pow _ hc) (Nat.and_lt_two_pow _ hd)
  · split
    · exact Nat.xor_lt_two_pow (Nat.xor_lt_two_pow hb hc) hd
    · split
      · exact Nat.or_lt_two_pow (Nat.or_lt_two_pow (Nat.and_lt_two_pow _ hc) (Nat.and_lt_two_pow _ hd)) (Nat.and_lt_two_pow _ hd)
      · exact Nat.xor_lt_two_pow (Nat.xor_lt_two_pow hb hc) hd
theorem stepK_lt (i : Nat) : stepK i < 4294967296 := by
  unfold stepK; split <;> (try split) <;> (try split) <;> omega
theorem rnd_ok (i x : Nat) (s : ShSt) (h : s.ok) : (rnd i x s).ok := by
  obtain ⟨h1, h2, h3, h4, h5⟩ := h
  exact ⟨Nat.mod_lt _ (by omega), h1, rot_lt _ h2 _, h3, h4⟩
theorem rnds_ok : ∀ (xs : List Nat) (i : Nat) (s : ShSt), s.ok → (rnds i xs s).ok
  | [], _, _, h => h
  | x :: xs, i, s, h => rnds_ok xs (i + 1) _ (rnd_ok i x s h)
theorem blockStep_ok (p : List UInt8) (h : ShSt) : (blockStep p h).ok := ⟨Nat.mod_lt _ (by omega), Nat.mod_lt _ (by omega), Nat.mod_lt _ (by omega), Nat.mod_lt _ (by omega), Nat.mod_lt _ (by omega)⟩
theorem hashB_zero (l : List UInt8) (h : ShSt) : hashB 0 l h = h := by simp [hashB]
theorem hashB_succ (n : Nat) (l : List UInt8) (h : ShSt) : hashB (n + 1) l h = blockStep (chunk l n) (hashB n l h) := by
  unfold hashB
  rw [List.range_succ, List.map_append, List.foldl_append, List.map_cons, List.map_nil, List.foldl_cons, List.foldl_nil]
theorem hashB_ok (n : Nat) (l : List UInt8) (h : ShSt) (hh : h.ok) : (hashB n l h).ok := by
  cases n with
  | zero => rw [hashB_zero]; exact hh
  | succ n => rw [hashB_succ]; exact blockStep_ok _ _
theorem word_lt (p : List UInt8) (i : Nat) : word p i < 4294967296 := by
  unfold word
  have := (p.getD (4 * i) 0).toNat_lt
  have := (p.getD (4 * i + 1) 0).toNat_lt
  have := (p.getD (4 * i + 2) 0).toNat_lt
  have := (p.getD (4 * i + 3) 0).toNat_lt
  omega
def allLt (L : List Nat) : Prop := ∀ x ∈ L, x < 4294967296
theorem allLt.getD {L : List Nat} (h : allLt L) (i : Nat) : L.getD i 0 < 4294967296 := by
  rw [List.getD_eq_getElem?_getD]
  rcases Nat.lt_or_ge i L.length with h1 | h1
  · rw [List.getElem?_eq_getElem h1]; exact h _ (List.getElem_mem h1)
  · rw [List.getElem?_eq_none h1]; simp
theorem nextW_lt (L : List Nat) (i : Nat) (h : allLt L) : nextW L i < 4294967296 := by
  unfold nextW
  have e : (4294967296 : Nat) = 2 ^ 32 := rfl
  refine rot_lt _ ?_ 1
  have h1 := h.getD (i - 3)
  have h2 := h.getD (i - 8)
  have h3 := h.getD (i - 14)
  have h4 := h.getD (i - 16)
  rw [e] at h1 h2 h3 h4 ⊢
  exact Nat.xor_lt_two_pow (Nat.xor_lt_two_pow (Nat.xor_lt_two_pow h1 h2) h3) h4
theorem ext_len : ∀ (n : Nat) (L : List Nat), (ext n L).length = L.length + n
  | 0, _ => rfl
  | n + 1, L => by simp only [ext]; rw [ext_len n]; simp; omega
theorem ext_lt : ∀ (n : Nat) (L : List Nat), allLt L → allLt (ext n L)
  | 0, _, h => h
  | n + 1, L, h => ext_lt n _ (by
    intro x hx
    rcases List.mem_append.1 hx with h1 | h1
    · exact h x h1
    · rw [List.mem_singleton.1 h1]; exact nextW_lt L _ h)
theorem first16_lt (p : List UInt8) : allLt (first16 p) := by
  intro x hx
  obtain ⟨i, _, rfl⟩ := List.mem_map.1 hx
  exact word_lt p i
theorem sched_len (p : List UInt8) : (sched p).length = 80 := by unfold sched; rw [ext_len]; simp [first16]
theorem sched_lt (p : List UInt8) : allLt (sched p) := ext_lt _ _ (first16_lt p)
theorem padded_len (l : List UInt8) : (padded l).length % 64 = 0 := by
  unfold padded padZ
  simp only [List.length_append, List.length_replicate, be_len, List.length_cons, List.length_nil]
  omega
theorem bytes_len (s : ShSt) : s.bytes.length = 20 := by simp [ShSt.bytes, be_len]
theorem rnds_at (L : List Nat) (i k : Nat) (s : ShSt) (hk : k < L.length) : rnds i (L.drop k) s = rnds (i + 1) (L.drop (k + 1)) (rnd i L[k] s) := by
  rw [List.drop_eq_getElem_cons hk]; rfl
theorem first16_take (p : List UInt8) (k : Nat) (hk : k < 16) : (first16 p).take (k + 1) = (first16 p).take k ++ [word p k] := by
  rw [List.take_succ_eq_append_getElem (by simp [first16]; omega)]; simp [first16]
theorem ext_zero (L : List Nat) : ext 0 L = L := rfl
theorem ext_succ (n : Nat) (L : List Nat) : ext (n + 1) L = ext n (L ++ [nextW L L.length]) := rfl
theorem sched_def (p : List UInt8) : sched p = ext 64 (first16 p) := rfl
theorem rnds_nil (i : Nat) (s : ShSt) : rnds i [] s = s := rfl
theorem blockStep_def (p : List UInt8) (h : ShSt) : blockStep p h = ⟨(h.a + (rnds 0 (sched p) h).a) % 4294967296, (h.b + (rnds 0 (sched p) h).b) % 4294967296, (h.c + (rnds 0 (sched p) h).c) % 4294967296, (h.d + (rnds 0 (sched p) h).d) % 4294967296, (h.e + (rnds 0 (sched p) h).e) % 4294967296⟩ := by unfold blockStep; rfl
theorem nextW_def (L : List Nat) (i : Nat) : nextW L i = rot (L.getD (i - 3) 0 ^^^ L.getD (i - 8) 0 ^^^ L.getD (i - 14) 0 ^^^ L.getD (i - 16) 0) 1 := rfl
theorem sha_def (l : List UInt8) : sha l = (hashB ((padded l).length / 64) (padded l) st0).bytes := rfl
attribute [irreducible] sched ext rnds blockStep hashB shaSt sha padded nextW first16 rot word
end Go.Proofs.YtjdlngbobnknmaaDoor
