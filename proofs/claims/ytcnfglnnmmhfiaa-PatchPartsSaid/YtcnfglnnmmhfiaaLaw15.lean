/- What a printed patch does to a base: plain law, no program. -/
import Derived.Test.YtcnfglnnmmhfiaaParse
namespace Go.Proofs.Ytcnfglnnmmhfiaa
set_option linter.all false
open Go.RowKit

theorem foldl_be (m : List UInt8) : ∀ a : Nat, m.foldl (fun n b => n * 256 + b.toNat) a = a * 256 ^ m.length + beVal m := by
  induction m with
  | nil => intro a; simp [beVal]
  | cons x m ih =>
    intro a
    have h1 : beVal (x :: m) = (0 * 256 + x.toNat) * 256 ^ m.length + beVal m := by
      unfold beVal; rw [List.foldl_cons, ih]; rfl
    rw [List.foldl_cons, ih, h1, List.length_cons, Nat.pow_succ', Nat.add_mul, Nat.zero_mul, Nat.zero_add, Nat.mul_assoc, Nat.add_assoc]
theorem beVal_cons (x : UInt8) (m : List UInt8) : beVal (x :: m) = x.toNat * 256 ^ m.length + beVal m := by
  have h := foldl_be m (0 * 256 + x.toNat)
  rw [Nat.zero_mul, Nat.zero_add] at h
  rw [← h]; unfold beVal; rw [List.foldl_cons, Nat.zero_mul, Nat.zero_add]
theorem beVal_be_mod (k n : Nat) : beVal (be k n) = n % 256 ^ k := by
  induction k with
  | zero => simp [be, beVal, Nat.mod_one]
  | succ k ih =>
    have h := byteOf_nat ((n / 256 ^ k % 256 : Nat) : Int) (by omega) (by omega)
    have h2 : (byteOf ((n / 256 ^ k % 256 : Nat) : Int)).toNat = n / 256 ^ k % 256 := by exact_mod_cast h
    simp only [be]
    rw [beVal_cons, ih, h2, be_len, Nat.mod_pow_succ, Nat.mul_comm, Nat.add_comm]
theorem beVal_be (k n : Nat) (h : n < 256 ^ k) : beVal (be k n) = n := by rw [beVal_be_mod, Nat.mod_eq_of_lt h]

theorem cut_mid {α : Type} (a m r : List α) (i j : Nat) (hi : i = a.length) (hj : j = a.length + m.length) : ((a ++ (m ++ r)).take j).drop i = m := by
  subst hi hj
  rw [← List.append_assoc, ← List.length_append, List.take_left, List.drop_left]

/-- A hunk as it is read back. -/
def hkOf (h : HRec) : Hk := ⟨h.f.toNat, h.t.toNat, h.b⟩
def Small (h : HRec) : Prop := 0 ≤ h.f ∧ h.f < 4294967296 ∧ 0 ≤ h.t ∧ h.t < 4294967296 ∧ h.b.length < 4294967296

theorem parse_print : ∀ (hs : List HRec), (∀ h ∈ hs, Small h) → parse (printB hs).length (printB hs) = (hs.map hkOf).map some
  | [], _ => rfl
  | h :: hs, hh => by
    obtain ⟨f0, f1, t0, t1, hl⟩ := hh h (by simp)
    have ih := parse_print hs (fun x hx => hh x (by simp [hx]))
    have uf : u64 h.f = h.f.toNat := by unfold u64; omega
    have ut : u64 h.t = h.t.toNat := by unfold u64; omega
    have e : printB (h :: hs) = be 4 h.f.toNat ++ (be 4 h.t.toNat ++ (be 4 h.b.length ++ (h.b ++ printB hs))) := by
      simp [printB, HRec.print, uf, ut]
    have c1 : ((printB (h :: hs)).take 4).drop 0 = be 4 h.f.toNat := by
      rw [e]; exact cut_mid [] (be 4 h.f.toNat) _ 0 4 rfl (by simp [be_len])
    have c2 : ((printB (h :: hs)).take 8).drop 4 = be 4 h.t.toNat := by
      rw [e]; exact cut_mid (be 4 h.f.toNat) (be 4 h.t.toNat) _ 4 8 (by simp [be_len]) (by simp [be_len])
    have c3 : ((printB (h :: hs)).take 12).drop 8 = be 4 h.b.length := by
      rw [e, ← List.append_assoc]; exact cut_mid (be 4 h.f.toNat ++ be 4 h.t.toNat) (be 4 h.b.length) _ 8 12 (by simp [be_len]) (by simp [be_len])
    have c4 : ((printB (h :: hs)).take (12 + h.b.length)).drop 12 = h.b := by
      rw [e, ← List.append_assoc, ← List.append_assoc]; exact cut_mid (be 4 h.f.toNat ++ be 4 h.t.toNat ++ be 4 h.b.length) h.b _ 12 (12 + h.b.length) (by simp [be_len]) (by simp [be_len])
    have c5 : (printB (h :: hs)).drop (12 + h.b.length) = printB hs := by
      rw [e, ← List.append_assoc, ← List.append_assoc, ← List.append_assoc]
      have : 12 + h.b.length = (be 4 h.f.toNat ++ be 4 h.t.toNat ++ be 4 h.b.length ++ h.b).length := by simp [be_len]; omega
      rw [this, List.drop_left]
    have hlen : (printB (h :: hs)).length = 12 + h.b.length + (printB hs).length := by rw [e]; simp [be_len]; omega
    have v1 : beVal (be 4 h.f.toNat) = h.f.toNat := beVal_be 4 _ (by omega)
    have v2 : beVal (be 4 h.t.toNat) = h.t.toNat := beVal_be 4 _ (by omega)
    have v3 : beVal (be 4 h.b.length) = h.b.length := beVal_be 4 _ (by omega)
    rw [parse_more (printB (h :: hs)) (by omega) h.b.length (by rw [c3, v3]) (by omega), c1, c2, c4, c5, ih, v1, v2]
    rfl

theorem applyGo_err (base : List UInt8) : ∀ (L : List (Option Hk)) (k : Nat) (out : List UInt8) (e : Nat), applyGo base L k out = .error e → e = 3 ∨ e = 4
  | [], _, _, _, h => by simp [applyGo] at h
  | none :: _, _, _, _, h => by simp [applyGo] at h; exact .inl h.symm
  | some x :: r, k, out, e, h => by
    simp only [applyGo] at h
    split at h
    · injection h with h; exact .inr h.symm
    · exact applyGo_err base r _ _ e h
theorem applyGo_len (base : List UInt8) : ∀ (L : List (Option Hk)) (k : Nat) (out x : List UInt8), k ≤ base.length → applyGo base L k out = .ok x → x.length + k ≤ out.length + base.length + sumB L
  | [], k, out, x, hk, h => by simp only [applyGo] at h; injection h with h; subst h; simp [sumB]; omega
  | none :: _, _, _, _, _, h => by simp [applyGo] at h
  | some y :: r, k, out, x, hk, h => by
    simp only [applyGo] at h
    split at h
    · cases h
    · rename_i hn
      have := applyGo_len base r y.tt _ x (by omega) h
      simp only [List.length_append, List.length_drop, List.length_take, sumB] at this ⊢
      omega

theorem applyRes_ok {base p : List UInt8} {most : Int} (h : (applyRes base p most).2 = 0) : ∃ x, applyGo base (parse p.length p) 0 [] = .ok x ∧ (applyRes base p most).1 = x ∧ (x.length : Int) ≤ most := by
  cases hg : applyGo base (parse p.length p) 0 [] with
  | error e =>
    have h1 := applyGo_err base _ _ _ e hg
    have : (applyRes base p most).2 = e := by unfold applyRes; rw [hg]
    omega
  | ok x =>
    by_cases hm : most < (x.length : Int)
    · have : (applyRes base p most).2 = 2 := by unfold applyRes; rw [hg]; simp [hm]
      omega
    · exact ⟨x, rfl, by unfold applyRes; rw [hg]; simp [hm], by omega⟩
theorem applyRes_of {base p x : List UInt8} {most : Int} (hg : applyGo base (parse p.length p) 0 [] = .ok x) (hm : (x.length : Int) ≤ most) : applyRes base p most = (x, 0) := by
  have : ¬ most < (x.length : Int) := by omega
  unfold applyRes; rw [hg]; simp [this]
theorem applyRes_len {base p : List UInt8} {most : Int} : (applyRes base p most).1.length ≤ base.length + p.length := by
  cases hg : applyGo base (parse p.length p) 0 [] with
  | error e => have : (applyRes base p most).1 = [] := by unfold applyRes; rw [hg]
               rw [this]; simp
  | ok x =>
    have h1 := applyGo_len base _ _ _ x (Nat.zero_le _) hg
    have h2 := sumB_parse p.length p
    by_cases hm : most < (x.length : Int)
    · have : (applyRes base p most).1 = [] := by unfold applyRes; rw [hg]; simp [hm]
      rw [this]; simp
    · rw [applyRes_of hg (by omega)]; simp at h1 ⊢; omega

theorem take_ahead {α : Type} (F X : List α) (n : Nat) : (F ++ X).take (n + F.length) = F ++ X.take n := by
  rw [List.take_append, List.take_of_length_le (by omega), Nat.add_sub_cancel]
/-- Bytes ahead and behind. -/
theorem applyGo_shift (F base B : List UInt8) : ∀ (L : List Hk) (k : Nat) (out x : List UInt8), k ≤ base.length → applyGo base (L.map some) k out = .ok x →
    applyGo (F ++ (base ++ B)) (L.map fun h => some ⟨h.fr + F.length, h.tt + F.length, h.b⟩) (k + F.length) (F ++ out) = .ok (F ++ (x ++ B))
  | [], k, out, x, hk, h => by
    simp only [applyGo, List.map_nil] at h ⊢
    injection h with h
    subst h
    have e : (F ++ (base ++ B)).drop (k + F.length) = base.drop k ++ B := by
      rw [Nat.add_comm, ← List.drop_drop, List.drop_left, List.drop_append_of_le_length hk]
    rw [e]; simp
  | y :: r, k, out, x, hk, h => by
    simp only [applyGo, List.map_cons] at h ⊢
    split at h
    · cases h
    · rename_i hn
      have hc : ¬ (y.tt + F.length < y.fr + F.length ∨ (F ++ (base ++ B)).length < y.tt + F.length ∨ y.fr + F.length < k + F.length) := by
        simp only [List.length_append]; omega
      rw [if_neg hc]
      have e : ((F ++ (base ++ B)).take (y.fr + F.length)).drop (k + F.length) = (base.take y.fr).drop k := by
        rw [take_ahead, Nat.add_comm k, ← List.drop_drop, List.drop_left, List.take_append_of_le_length (by omega)]
      have ih := applyGo_shift F base B r y.tt (out ++ (base.take y.fr).drop k ++ y.b) x (by omega) h
      rw [e]
      simpa [List.append_assoc] using ih
theorem applyGo_shift0 (F base B : List UInt8) (L : List Hk) (x : List UInt8) (h : applyGo base (L.map some) 0 [] = .ok x) :
    applyGo (F ++ (base ++ B)) (L.map fun h => some ⟨h.fr + F.length, h.tt + F.length, h.b⟩) 0 [] = .ok (F ++ (x ++ B)) := by
  have g := applyGo_shift F base B L 0 [] x (Nat.zero_le _) h
  rw [Nat.zero_add, List.append_nil] at g
  cases L with
  | nil =>
    simp only [applyGo, List.map_nil] at g ⊢
    rw [← g]; simp
  | cons y r =>
    simp only [applyGo, List.map_cons] at g ⊢
    split at g
    · cases g
    · rename_i hn
      rw [if_neg (by omega)]
      have e : (F ++ (base ++ B)).take (y.fr + F.length) = F ++ ((F ++ (base ++ B)).take (y.fr + F.length)).drop F.length := by
        rw [take_ahead, List.drop_left]
      rw [List.drop_zero, List.nil_append, e]
      exact g

/-- One hunk, and two that lie apart. -/
theorem apply_one (base b : List UInt8) (fr tt : Nat) (A : Option Addr) (c : Nat) (h1 : fr ≤ tt) (h2 : tt ≤ base.length) (hb : base.length < 4294967296) (hl : b.length < 4294967296) :
    applyRes base (printB [⟨fr, tt, A, c, b⟩]) 1099511627776 = (base.take fr ++ b ++ base.drop tt, 0) := by
  refine applyRes_of ?_ ?_
  · rw [parse_print _ (by intro h hh; simp at hh; subst hh; refine ⟨?_, ?_, ?_, ?_, ?_⟩ <;> simp only <;> omega)]
    simp only [List.map_cons, List.map_nil, hkOf, applyGo, Int.toNat_natCast]
    rw [if_neg (by omega)]
    simp
  · simp only [List.length_append, List.length_take, List.length_drop]; omega
theorem apply_two (base b b' : List UInt8) (fr tt fr' tt' : Nat) (A A' : Option Addr) (c c' : Nat) (h1 : fr ≤ tt) (h2 : tt ≤ fr') (h3 : fr' ≤ tt') (h4 : tt' ≤ base.length) (hb : base.length < 4294967296) (hl : b.length < 4294967296) (hl' : b'.length < 4294967296) :
    applyRes base (printB [⟨fr, tt, A, c, b⟩, ⟨fr', tt', A', c', b'⟩]) 1099511627776 = (base.take fr ++ b ++ (base.take fr').drop tt ++ b' ++ base.drop tt', 0) := by
  refine applyRes_of ?_ ?_
  · rw [parse_print _ (by
      intro h hh
      simp at hh
      rcases hh with rfl | rfl <;> (refine ⟨?_, ?_, ?_, ?_, ?_⟩ <;> simp only <;> omega))]
    simp only [List.map_cons, List.map_nil, hkOf, applyGo, Int.toNat_natCast]
    rw [if_neg (by omega), if_neg (by omega)]
    simp
  · simp only [List.length_append, List.length_take, List.length_drop]; omega
theorem parts_law (base one two : List UInt8) (p0 p1 p2 p3 : Nat) (h1 : p0 ≤ p1) (h2 : p1 ≤ p2) (h3 : p2 ≤ p3) (h4 : p3 ≤ base.length) (hb : base.length < 2000000000) (hl : one.length < 1000) (hl' : two.length < 1000) (A : Option Addr) (c : Nat) :
    applyRes (base.take p2 ++ two ++ base.drop p3) (printB [⟨p0, p1, A, c, one⟩]) 1099511627776 = (base.take p0 ++ one ++ (base.take p2).drop p1 ++ two ++ base.drop p3, 0) := by
  rw [apply_one _ one p0 p1 A c h1 (by simp only [List.length_append, List.length_take]; omega) (by simp only [List.length_append, List.length_take, List.length_drop]; omega) (by omega)]
  have e1 : (base.take p2 ++ two ++ base.drop p3).take p0 = base.take p0 := by
    rw [List.append_assoc, List.take_append_of_le_length (by rw [List.length_take]; omega), List.take_take, Nat.min_eq_left (by omega)]
  have e2 : (base.take p2 ++ two ++ base.drop p3).drop p1 = (base.take p2).drop p1 ++ two ++ base.drop p3 := by
    rw [List.append_assoc, List.drop_append_of_le_length (by rw [List.length_take]; omega), List.append_assoc]
  rw [e1, e2]
  simp [List.append_assoc]
end Go.Proofs.Ytcnfglnnmmhfiaa
