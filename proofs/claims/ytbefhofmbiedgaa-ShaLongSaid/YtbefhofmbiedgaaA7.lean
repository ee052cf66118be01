/- Cuts of strings and slices, components, lengths, functions, equality on abstract values. Over any program; no condition. -/
import Derived.Test.YtbefhofmbiedgaaA6
namespace Go.Proofs.Ytbefhofmbiedgaa
set_option linter.all false
open Go.RowKit

section
variable {P : Program} {F : Nat → Prop} {w0 w : World} {S : Nat → Prop} {ρ : Rho} {hp : List AObj}

theorem extract_mk (l : List UInt8) (a b : Nat) : (⟨l.toArray⟩ : ByteArray).extract a b = ⟨((l.take b).drop a).toArray⟩ := by
  apply ByteArray.ext
  simp only [ByteArray.data_extract]
  apply Array.ext'
  simp [List.extract_eq_drop_take', List.take_drop]
  rcases Nat.lt_or_ge b a with h | h
  · rw [List.drop_of_length_le (by rw [List.length_take]; omega), List.drop_of_length_le (by rw [List.length_take]; omega)]
  · rw [show a + (b - a) = b by omega]
/-- The bounds of a cut. -/
def aLo : Option AV → Option Int
  | none => some 0
  | some (.int _ n) => some n
  | _ => none
def aHi (n : Nat) : Option AV → Option Int
  | none => some n
  | some (.int _ n) => some n
  | _ => none
/-- What the model is handed for a bound. -/
def Bd (w : World) (S : Nat → Prop) (ρ : Rho) (x : Option AV) (v : Option Value) : Prop :=
  match x, v with
  | none, none => True
  | some x, some v => Vl w S ρ x v
  | _, _ => False
theorem run_bounds {x y : Option AV} {v u : Option Value} (hx : Bd w S ρ x v) (hy : Bd w S ρ y u) {a b : Int} {n c : Nat} (ha : aLo x = some a) (hb : aHi n y = some b) (h0 : 0 ≤ a) (h1 : a ≤ b) (h2 : b ≤ c) (isS : Bool) :
    (Instr.sliceBounds isS n c v u none).run P w = .ok (a.toNat, b.toNat, c) w := by
  have hb0 : 0 ≤ b := by omega
  have eb : (b.toNat : Int) = b := Int.toNat_of_nonneg hb0
  cases y with
  | none =>
    cases u with
    | some _ => exact hy.elim
    | none =>
      injection hb with hb; subst hb
      cases x with
      | none =>
        cases v with
        | some _ => exact hx.elim
        | none => injection ha with ha; subst ha; simp [Instr.sliceBounds]
      | some x =>
        cases v with
        | none => exact hx.elim
        | some v =>
          cases x <;> simp only [aLo, reduceCtorEq, Option.some.injEq] at ha
          subst ha
          have hx' : v = _ := Vl.int hx
          subst hx'
          simp [Instr.sliceBounds, run_sliceBound, h0, h1]
  | some y =>
    cases u with
    | none => exact hy.elim
    | some u =>
      cases y <;> simp only [aHi, reduceCtorEq, Option.some.injEq] at hb
      subst hb
      have hy' : u = _ := Vl.int hy
      subst hy'
      cases x with
      | none =>
        cases v with
        | some _ => exact hx.elim
        | none => injection ha with ha; subst ha; simp [Instr.sliceBounds, run_sliceBound, hb0, h2]
      | some x =>
        cases v with
        | none => exact hx.elim
        | some v =>
          cases x <;> simp only [aLo, reduceCtorEq, Option.some.injEq] at ha
          subst ha
          have hx' : v = _ := Vl.int hx
          subst hx'
          simp [Instr.sliceBounds, run_sliceBound, h0, h1, hb0, h2, eb]

def cutL {α : Type} (xs : List α) (lo hi : Option AV) : Option (List α × Prop) :=
  match aLo lo, aHi xs.length hi with
  | some a, some b => some ((xs.take b.toNat).drop a.toNat, 0 ≤ a ∧ a ≤ b ∧ b ≤ xs.length)
  | _, _ => none
def aSlS (x : AV) (lo hi : Option AV) : Option (AV × Prop) :=
  match x with
  | .str l => (cutL l lo hi).map fun (q : List UInt8 × Prop) => (.str q.1, q.2)
  | _ => none
theorem cutL_some {α : Type} {xs ys : List α} {lo hi : Option AV} {p : Prop} (h : cutL xs lo hi = some (ys, p)) : ∃ a b, aLo lo = some a ∧ aHi xs.length hi = some b ∧ ys = (xs.take b.toNat).drop a.toNat ∧ p = (0 ≤ a ∧ a ≤ b ∧ b ≤ xs.length) := by
  unfold cutL at h
  split at h
  · rename_i a b h1 h2
    injection h with h; injection h with e1 e2
    exact ⟨a, b, h1, h2, e1.symm, e2.symm⟩
  · cases h
theorem aSlS_ok {x r : AV} {lo hi : Option AV} {p : Prop} {v : Value} {u1 u2 : Option Value} (h : aSlS x lo hi = some (r, p)) (hp' : p) (hx : Vl w S ρ x v) (h1 : Bd w S ρ lo u1) (h2 : Bd w S ρ hi u2) {t : TypeId} (ht : P.underlying t = some .string) :
    ∃ q, (Instr.sliceAt t v u1 u2 none).run P w = .ok q w ∧ Vl w S ρ r q := by
  unfold aSlS at h
  split at h
  · rename_i l
    obtain ⟨⟨q1, q2⟩, hq, e⟩ := Option.map_eq_some_iff.1 h
    injection e with e1 e2; subst e1 e2
    obtain ⟨a, b, k1, k2, rfl, rfl⟩ := cutL_some hq
    obtain ⟨p0, p1, p2⟩ := hp'
    have hb := run_bounds (P := P) h1 h2 (c := l.length) k1 k2 p0 p1 p2 false
    rw [hx.str]
    refine ⟨_, ?_, Vl.str' _⟩
    have hsz : (⟨l.toArray⟩ : ByteArray).size = l.length := rfl
    simp [Instr.sliceAt, run_underlying ht, Instr.slice, hsz, hb, extract_mk]
  · cases h

def aSl (hp : List AObj) (sz : Nat) (x : AV) (lo hi : Option AV) : Option (AV × Prop) :=
  match x with
  | .sl s xs => if s = sz then (cutL xs lo hi).map fun (q : List AV × Prop) => (.sl sz q.1, q.2) else none
  | .con u => if nilS u then (match aLo lo, aHi 0 hi with
    | some a, some b => some (.con u, a = 0 ∧ b = 0)
    | _, _ => none) else none
  | .own id v => match hp[id]? with
    | some (.row _ s v' xs) => if v = v' ∧ s = sz then (match aLo lo, aHi xs.length hi with
      | some a, some b => some (.ownv id v a.toNat (b - a).toNat, 0 ≤ a ∧ a ≤ b ∧ b ≤ xs.length)
      | _, _ => none) else none
    | some (.froz s v' xs) => if v = v' ∧ s = sz then (cutL xs lo hi).map fun (q : List AV × Prop) => (.sl sz q.1, q.2) else none
    | _ => none
  | .ownv id v i m => match hp[id]? with
    | some (.row _ s v' xs) => if v = v' ∧ s = sz then (match aLo lo, aHi m hi with
      | some a, some b => some (.ownv id v (i + a.toNat) (b - a).toNat, 0 ≤ a ∧ a ≤ b ∧ b ≤ m)
      | _, _ => none) else none
    | _ => none
  | _ => none
theorem run_sliceAt_sl {t e : TypeId} {sz : Nat} (ht : P.underlying t = some (.slice e)) (hsz : (P.info? e).map (·.size) = some sz) {x y : Option AV} {v u : Option Value} (hx : Bd w S ρ x v) (hy : Bd w S ρ y u) {a b : Int} {A : Option Addr} {n c : Nat}
    (ha : aLo x = some a) (hb : aHi n y = some b) (h0 : 0 ≤ a) (h1 : a ≤ b) (h2 : b ≤ c) :
    (Instr.sliceAt t (.slice A n c) v u none).run P w = .ok (.slice (cutA A c a.toNat sz) (b.toNat - a.toNat) (c - a.toNat)) w := by
  have hbd := run_bounds (P := P) hx hy ha hb h0 h1 h2 true
  obtain ⟨j, hj1, hj2⟩ := Option.map_eq_some_iff.1 hsz
  simp [Instr.sliceAt, run_underlying ht, Instr.slice, hbd, sizeOf, typeInfo, hj1, hj2, cutA]
theorem Cs.sl_cut {sz : Nat} {xs : List AV} {v : Value} (h : Cs w S ρ (.sl sz xs) [v]) {i j : Nat} (hij : i ≤ j) (hj : j ≤ xs.length) :
    ∃ A c, v = .slice A xs.length c ∧ xs.length ≤ c ∧ Cs w S ρ (.sl sz ((xs.take j).drop i)) [.slice (cutA A c i sz) (j - i) (c - i)] := by
  have key : ∀ x vs, Cs w S ρ x vs → x = .sl sz xs → vs = [v] → ∃ A c, v = .slice A xs.length c ∧ xs.length ≤ c ∧ Cs w S ρ (.sl sz ((xs.take j).drop i)) [.slice (cutA A c i sz) (j - i) (c - i)] := by
    intro x vs hc
    cases hc with
    | sl0 s A c hc =>
      intro e ev; cases e; cases ev
      simp only [List.length_nil] at hj
      obtain rfl : j = 0 := by omega
      obtain rfl : i = 0 := by omega
      exact ⟨A, c, rfl, Nat.zero_le _, .sl0 _ _ _ (by omega)⟩
    | sl s ys us b o c hS k1 k2 k3 k4 k5 =>
      intro e ev; cases e; cases ev
      refine ⟨_, c, rfl, k4, ?_⟩
      have hM : Mem w S sz xs (some ⟨b, o, none⟩) xs.length c us := ⟨rfl, k1.parts, fun _ => ⟨b, o, rfl, k3⟩, k4, k5⟩
      have hM' := hM.cut hij hj
      have hlen : ((xs.take j).drop i).length = j - i := by rw [List.length_drop, List.length_take]; omega
      rcases Nat.eq_zero_or_pos (j - i) with h0 | h0
      · have : (xs.take j).drop i = [] := List.eq_nil_of_length_eq_zero (by omega)
        rw [this, h0]; exact .sl0 _ _ _ (by omega)
      · have hcut : cutA (some ⟨b, o, none⟩) c i sz = some ⟨b, o + i * sz, none⟩ := by unfold cutA; rw [if_neg (by omega)]; simp [add_spot]
        rw [hcut] at hM' ⊢
        have hcell : ∀ k, k < ((us.take (j * sz)).drop (i * sz)).length → w.cell? ⟨b, o + i * sz + k, none⟩ = ((us.take (j * sz)).drop (i * sz))[k]? := by
          intro k hk
          obtain ⟨b', o', e, hc⟩ := hM'.cell (by omega)
          injection e with e; injection e with e1 e2; subst e1 e2
          exact hc k hk
        have := Cs.sl (w := w) (S := S) (ρ := ρ) sz ((xs.take j).drop i) _ b (o + i * sz) (c - i) hS hM'.css.cs hM'.ulen hcell (by omega) (by omega)
        rw [hlen] at this; exact this
    | _ => intro e; cases e
  exact key _ _ h rfl rfl
theorem aSl_ok (H : ObsOk w S ρ hp) {sz : Nat} {x r : AV} {lo hi : Option AV} {p : Prop} {v : Value} {u1 u2 : Option Value} (h : aSl hp sz x lo hi = some (r, p)) (hp' : p) (hx : Vl w S ρ x v) (h1 : Bd w S ρ lo u1) (h2 : Bd w S ρ hi u2) {t e : TypeId}
    (ht : P.underlying t = some (.slice e)) (hsz : (P.info? e).map (·.size) = some sz) :
    ∃ q, (Instr.sliceAt t v u1 u2 none).run P w = .ok q w ∧ Vl w S ρ r q := by
  have stable : ∀ {xs : List AV} {v : Value} {q : List AV × Prop}, Cs w S ρ (.sl sz xs) [v] → cutL xs lo hi = some q → q.2 → ∃ r, (Instr.sliceAt t v u1 u2 none).run P w = .ok r w ∧ Vl w S ρ (.sl sz q.1) r := by
    intro xs v q hc hq hq2
    obtain ⟨a, b, k1, k2, e1, e2⟩ := cutL_some (p := q.2) (ys := q.1) hq
    rw [e2] at hq2
    obtain ⟨p0, p1, p2⟩ := hq2
    obtain ⟨A, c, rfl, hcap, hc'⟩ := hc.sl_cut (i := a.toNat) (j := b.toNat) (by omega) (by omega)
    rw [e1]
    exact ⟨_, run_sliceAt_sl ht hsz h1 h2 k1 k2 p0 p1 (by omega), .inr ⟨_, hc', rfl⟩⟩
  unfold aSl at h
  split at h
  · split at h
    · rename_i s xs e; subst e
      obtain ⟨q, hq, e⟩ := Option.map_eq_some_iff.1 h
      injection e with e1 e2; subst e1 e2
      exact stable hx.sl hq hp'
    · cases h
  · rename_i u
    split at h
    · rename_i hu
      have hv := hx.con.trans (nilS_eq hu)
      split at h
      · rename_i a b k1 k2
        injection h with h; injection h with e1 e2; subst e1 e2
        obtain ⟨rfl, rfl⟩ := hp'
        rw [hv]
        have hr := run_sliceAt_sl (P := P) (w := w) (A := none) (c := 0) ht hsz h1 h2 k1 k2 (by omega) (by omega) (by omega)
        refine ⟨_, hr, ?_⟩
        rw [nilS_eq hu]
        exact Vl.con' _ rfl
      · cases h
    · cases h
  · rename_i id ver
    obtain ⟨L, hL, rfl⟩ := hx.own
    split at h
    · rename_i e' s v' xs ho
      split at h
      · rename_i e; obtain ⟨rfl, rfl⟩ := e
        split at h
        · rename_i a b k1 k2
          injection h with h; injection h with e1 e2; subst e1 e2
          obtain ⟨p0, p1, p2⟩ := hp'
          obtain ⟨L', us, m1, m2, m3, m4, m5, m6⟩ := H _ _ ho (by simp)
          rw [hL] at m1; injection m1 with m1; subst m1
          have hM := (m4.mem m2 (by rw [m3]; exact m5)).cap
          rw [← m2] at k2
          refine ⟨_, run_sliceAt_sl ht hsz h1 h2 k1 k2 p0 p1 (by omega), ?_⟩
          have := Cs.ownv (w := w) (S := S) id ver a.toNat (b - a).toNat L (cutA L.A L.c a.toNat L.sz) hL (by omega) (fun _ => rfl)
          rw [m3] at this
          rw [show b.toNat - a.toNat = (b - a).toNat by omega]
          exact .inr ⟨_, this, rfl⟩
        · cases h
      · cases h
    · rename_i s v' xs ho
      split at h
      · rename_i e; obtain ⟨rfl, rfl⟩ := e
        obtain ⟨q, hq, e⟩ := Option.map_eq_some_iff.1 h
        injection e with e1 e2; subst e1 e2
        obtain ⟨L', m1, m2, m3, m4⟩ := H _ _ ho (by simp)
        rw [hL] at m1; injection m1 with m1; subst m1
        exact stable (m4.ext (fun _ _ => rfl) (fun _ h => h) (fun _ _ _ h => by cases h)) hq hp'
      · cases h
    · cases h
  · rename_i id ver i m
    obtain ⟨L, A0, hL, hm, hA0, rfl⟩ := hx.ownv
    split at h
    · rename_i e' s v' xs ho
      split at h
      · rename_i e; obtain ⟨rfl, rfl⟩ := e
        split at h
        · rename_i a b k1 k2
          injection h with h; injection h with e1 e2; subst e1 e2
          obtain ⟨p0, p1, p2⟩ := hp'
          obtain ⟨L', us, m1, m2, m3, m4, m5, m6⟩ := H _ _ ho (by simp)
          rw [hL] at m1; injection m1 with m1; subst m1
          have hM := (m4.mem m2 (by rw [m3]; exact m5)).cap
          refine ⟨_, run_sliceAt_sl ht hsz h1 h2 k1 k2 p0 p1 (by omega), ?_⟩
          have := Cs.ownv (w := w) (S := S) id ver (i + a.toNat) (b - a).toNat L (cutA A0 (L.c - i) a.toNat s) hL (by omega) (fun hh => by
            rw [hA0 (by omega), ← m3]
            unfold cutA
            rcases Nat.eq_zero_or_pos i with hi | hi
            · subst hi
              rcases Nat.eq_zero_or_pos a.toNat with ha | ha
              · rw [ha]; simp only [Nat.add_zero, Nat.zero_mul, Nat.sub_zero]
                split
                · rfl
                · cases L.A <;> simp [addr_add_zero]
              · rw [if_neg (show ¬ L.c - 0 = a.toNat by omega), if_neg (show ¬ L.c = 0 + a.toNat by omega)]
                have : ¬ L.c = 0 := by omega
                rw [if_neg this]
                cases L.A with
                | none => rfl
                | some ad => simp [addr_add_zero]
            · rw [if_neg (show ¬ L.c - i = a.toNat by omega), if_neg (show ¬ L.c = i + a.toNat by omega), if_neg (show ¬ L.c = i by omega)]
              obtain ⟨hl, m4⟩ := m4
              rcases m4 with ⟨q1, q2, q3⟩ | ⟨g, cur, fr, q1, _⟩
              · omega
              · rw [q1]; simp only [Option.map_some, add_spot, Nat.add_mul, Nat.add_assoc])
          rw [show b.toNat - a.toNat = (b - a).toNat by omega, show L.c - i - a.toNat = L.c - (i + a.toNat) by omega]
          exact .inr ⟨_, this, rfl⟩
        · cases h
      · cases h
    · cases h
  · cases h
end
end Go.Proofs.Ytbefhofmbiedgaa
