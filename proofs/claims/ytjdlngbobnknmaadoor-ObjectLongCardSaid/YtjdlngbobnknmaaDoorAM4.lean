/- The abstract machine: contracts made of contracts (one of two; a new row that nobody writes any more; a row that a library function made). Over any program; no condition. -/
import Derived.Test.YtjdlngbobnknmaaDoorAM3
namespace Go.Proofs.YtjdlngbobnknmaaDoor
set_option linter.all false
open Go.RowKit
section
variable {P : Program} {f : FuncId} {sp sp1 sp2 : Spec}
theorem FnOk.or (h1 : FnOk P f sp1) (h2 : FnOk P f sp2) (h : ∀ as hp r, sp as hp = some r → r.pre → (∃ r', sp1 as hp = some r' ∧ r'.pre ∧ r'.v = r.v ∧ r'.hp = r.hp) ∨ (∃ r', sp2 as hp = some r' ∧ r'.pre ∧ r'.v = r.v ∧ r'.hp = r.hp)) : FnOk P f sp := by
  intro as hp r hs hp' w S ρ args H ha
  rcases h as hp r hs hp' with ⟨r', k1, k2, k3, k4⟩ | ⟨r', k1, k2, k3, k4⟩
  · rw [← k3, ← k4]; exact h1 as hp r' k1 k2 w S ρ args H ha
  · rw [← k3, ← k4]; exact h2 as hp r' k1 k2 w S ρ args H ha
theorem FnOk.imp (h1 : FnOk P f sp1) (h : ∀ as hp r, sp as hp = some r → r.pre → ∃ r', sp1 as hp = some r' ∧ r'.pre ∧ r'.v = r.v ∧ r'.hp = r.hp) : FnOk P f sp :=
  FnOk.or h1 h1 fun as hp r hs hp' => .inl (h as hp r hs hp')
def isOwn (ver : Nat) : AV → Bool
  | .own 0 v => v == ver
  | _ => false
theorem isOwn_eq {ver : Nat} {x : AV} (h : isOwn ver x = true) : x = .own 0 ver := by
  unfold isOwn at h
  split at h
  · rw [beq_iff_eq.1 h]
  · cases h
/-- The value once the one new row is told as a row that nobody writes any more. -/
def fz1 (ver : Nat) (y x : AV) : AV := if isOwn ver x then y else x
def fzOk (ver : Nat) (x : AV) : Bool := isOwn ver x || (pureB 4 x && !(match x with | .tup _ => true | _ => false))
def fz (ver : Nat) (y : AV) : AV → AV
  | .tup l => .tup (l.map (fz1 ver y))
  | x => fz1 ver y x
def fzOkV (ver : Nat) : AV → Bool
  | .tup l => l.all (fzOk ver)
  | x => fzOk ver x
theorem FnOk.freeze (h : FnOk P f sp1) (hh : ∀ as hp r', sp as hp = some r' → r'.pre → hp = [] ∧ ∃ r e sz ver xs, sp1 as [] = some r ∧ r.pre ∧ r.hp = [.row e sz ver xs] ∧ 0 < sz ∧ fzOkV ver r.v = true ∧ r'.v = fz ver (.sl sz xs) r.v ∧ r'.hp = []) : FnOk P f sp := by
  intro as hp r' hs hp' w S ρ args H ha
  obtain ⟨rfl, r, e, sz, ver, xs, k1, k2, k3, k4, k5, k6, k7⟩ := hh as hp r' hs hp'
  refine (h as [] r k1 k2 w S ρ args H ha).mono ?_
  rintro e0 w' ⟨v, S', ρ', rfl, hv, H', hE, hS⟩
  rw [k3] at H'
  obtain ⟨L, us, o1, o2, o3, o4, o5, o6⟩ := H'.ob 0 _ rfl
  subst o3
  have hM := o4.mem o2 o5
  have hblk : (AObj.row e L.sz ver xs).blk ρ' 0 = ablk L.A := by simp [AObj.blk, o1]
  have hsl : ∀ w ρ, w = w' → Vl w (fun b => S' b ∨ ablk L.A = some b) ρ (.sl L.sz xs) (.slice L.A L.n L.c) := fun w ρ ew => by subst ew; exact hM.sl k4 (fun b hb => .inr hb) (fun b hb => .inl hb)
  have one : ∀ x u, fzOk ver x = true → Vl1 w' S' ρ' x u → Vl1 w' (fun b => S' b ∨ ablk L.A = some b) ρ (fz1 ver (.sl L.sz xs) x) u := by
    intro x u hx hu
    unfold fz1
    cases ho : isOwn ver x with
    | true =>
      have hx' := isOwn_eq ho
      subst hx'
      have hu' : Vl w' S' ρ' (.own 0 ver) u := hu
      obtain ⟨L', e1, rfl⟩ := hu'.own
      rw [o1] at e1; injection e1 with e1; subst e1
      exact hsl w' ρ rfl
    | false =>
      rw [if_neg (by simp)]
      unfold fzOk at hx
      rw [ho, Bool.false_or, Bool.and_eq_true] at hx
      rcases hu with hu | ⟨vs, hc, hu⟩
      · exact .inl hu
      · exact .inr ⟨vs, pureB_ok 4 (hc.ext (fun _ _ => rfl) (fun b hb => .inl hb) (fun _ _ _ h => h)) hx.1, hu⟩
  refine ⟨v, fun b => S' b ∨ ablk L.A = some b, ρ, rfl, ?_, ?_, ⟨hE.mem, fun b hb => .inl (hE.st b hb), fun _ _ _ h => h⟩, ?_⟩
  · rw [k6]
    cases hrv : r.v with
    | tup l =>
      rw [hrv] at hv k5
      obtain ⟨vs, e1, e2, e3⟩ := hv
      refine ⟨vs, e1, by simpa using e2, fun i hi => ?_⟩
      simp only [List.length_map] at hi
      have h1 := one (l.getD i .top) (vs.getD i undef) (by
        have := List.all_eq_true.1 k5 (l.getD i .top) (by rw [List.getD_eq_getElem?_getD, List.getElem?_eq_getElem hi]; exact List.getElem_mem _)
        exact this) (e3 i hi)
      have e4 : (l.map (fz1 ver (.sl L.sz xs))).getD i .top = fz1 ver (.sl L.sz xs) (l.getD i .top) := by
        rw [List.getD_eq_getElem?_getD, List.getElem?_map, List.getD_eq_getElem?_getD, List.getElem?_eq_getElem hi]; rfl
      rw [e4]; exact h1
    | _ =>
      rw [hrv] at hv k5
      have h1 := one _ v k5 (Vl.to1 (by intro xs; simp) hv)
      refine Vl.of1 (fun ys hy => ?_) h1
      simp only [fz, fz1] at hy
      split at hy <;> cases hy
  · rw [k7]
    refine ⟨H'.kept, fun id o ho => by simp at ho, fun i j x y _ hx => by simp at hx, fun id o ho => by simp at ho, fun b hb => ?_, fun id _ v => H.new id (Nat.zero_le _) v, fun id o ho => by simp at ho⟩
    rcases hb with hb | hb
    · exact H'.slt b hb
    · rcases o4.2 with ⟨z1, _, _⟩ | ⟨g, cur, fr, z1, z2, _⟩
      · rw [z1] at hb; cases hb
      · rw [z1] at hb
        have : g = b := by simpa [ablk] using hb
        subst this
        exact (Array.getElem?_eq_some_iff.1 z2).1
  · rintro b (hb | hb)
    · exact hS b hb
    · rcases H'.mine 0 _ rfl b (by rw [hblk]; exact hb) with h1 | h1
      · exact .inr (.inr h1)
      · exact .inr (.inl h1)
/-- A library function that hands back a new row. -/
theorem fnok_row (h : ∀ as hp r, sp as hp = some r → r.pre → hp = [] ∧ ∃ e sz xs, r.v = .own 0 0 ∧ r.hp = [.row e sz 0 xs] ∧ ∀ (w : World) (S : Nat → Prop) (ρ : Rho) (args : List Value), (∀ b, S b → b < w.heap.size) → ArgsOk w S ρ as args →
    Calls P f args.toArray w fun e' w' => ∃ g n c us cur fr, e' = .returned (.slice (some ⟨g, 0, none⟩) n c) ∧ Below w.heap.size w w' ∧ w.heap.size ≤ g ∧ w'.heap[g]? = some (.cells cur e fr) ∧ Mk fr cur.size ∧ n ≤ c ∧ c ≤ 9223372036854775807 ∧ cur.size = c * sz ∧ cur.toList.take (n * sz) = us ∧
      us.length = n * sz ∧ n = xs.length ∧ Css w' (fun _ => False) rho0 (prs sz xs) us) : FnOk P f sp := by
  intro as hp r hs hp' w S ρ args H ha
  obtain ⟨rfl, e, sz, xs, k1, k2, hc⟩ := h as hp r hs hp'
  refine (hc w S ρ args H.slt ha).mono ?_
  rintro e' w' ⟨g, n, c, us, cur, fr, rfl, hb, hg, m1, m2, m3, m4, m5, m6, m7, m8, m9⟩
  have hn : ∀ u, ρ 0 u = none := fun u => H.new 0 (Nat.zero_le _) u
  obtain ⟨H', hE⟩ := H.push (w' := w') (S' := S) (ρ' := rset ρ 0 0 ⟨some ⟨g, 0, none⟩, c, n, sz⟩) (o' := .row e sz 0 xs) hb (fun _ h => h) (fun _ h => .inl h)
    (fun i v L hL => by
      unfold rset
      by_cases hi : i = 0 ∧ v = 0
      · obtain ⟨rfl, rfl⟩ := hi; rw [hn] at hL; cases hL
      · rw [if_neg hi]; exact hL)
    (fun i v hi => by unfold rset; rw [if_neg (by intro hh; exact hi hh.1)])
    ⟨⟨some ⟨g, 0, none⟩, c, n, sz⟩, us, by simp [rset], m8, rfl, ⟨m7, .inr ⟨g, cur, fr, rfl, m1, m2, m3, m4, m5, m6⟩⟩, m9.ext ⟨fun b hb => hb.elim, fun b hb => hb.elim, fun _ _ _ h => h⟩, fun b hb hS => by
      have : g = b := by simpa [ablk] using hb
      subst this
      have := H.slt _ hS; omega⟩
    (fun v hv => by
      have hv0 : 0 < v := hv
      show rset ρ 0 0 _ 0 v = none
      unfold rset; rw [if_neg (by intro hh; omega)]; exact hn v)
    (fun b hb => by
      have hb' : ((rset ρ 0 0 ⟨some ⟨g, 0, none⟩, c, n, sz⟩ 0 0).bind fun L => ablk L.A) = some b := hb
      have : g = b := by simpa [rset, ablk] using hb'
      omega)
  refine ⟨_, S, _, rfl, ?_, by rw [k2]; exact H', hE, fun b h => .inl h⟩
  rw [k1]
  exact .inr ⟨_, .own 0 0 ⟨some ⟨g, 0, none⟩, c, n, sz⟩ (by simp [rset]), rfl⟩
end
section
variable {P : Program} {f : FuncId} {sp : Spec}
/-- A contract out of a walk whose value lies in blocks of its own. -/
theorem fnok_of_fresh (h : ∀ xs hp r, sp xs hp = some r → r.pre → hp = [] ∧ r.hp = [] ∧ ∀ (w : World) (S : Nat → Prop) (ρ : Rho) (args : List Value), (∀ b, S b → b < w.heap.size) → ArgsOk w S ρ xs args →
    Calls P f args.toArray w fun e w' => ∃ v, e = .returned v ∧ Below w.heap.size w w' ∧ Vl w' (fun b => S b ∨ (w.heap.size ≤ b ∧ b < w'.heap.size)) ρ r.v v) : FnOk P f sp := by
  intro xs hp r hs hp' w S ρ args H ha
  obtain ⟨rfl, hr, hc⟩ := h xs hp r hs hp'
  refine (hc w S ρ args H.slt ha).mono ?_
  rintro e w' ⟨v, rfl, hb, hv⟩
  obtain ⟨H', hE⟩ := H.same (S' := fun b => S b ∨ (w.heap.size ≤ b ∧ b < w'.heap.size)) hb (fun _ h => .inl h) (fun _ h => h)
  exact ⟨v, _, ρ, rfl, hv, by rw [hr]; exact H', hE, fun b h => h.elim .inl (fun h => .inr (.inl h.1))⟩
theorem Own.rw1 {w : World} {base : Nat} {e : TypeId} {A : Option Addr} {c : Nat} {l : List UInt8} (h : Own w base e A c l) : Rw w e ⟨A, c, l.length, 1⟩ (l.map U) := by
  have h1 := h.cap
  have h2 := h.cmax
  refine ⟨by simp, ?_⟩
  rcases h.2 with ⟨hv, h0⟩ | ⟨g, cap, cur, hv, hb, hg, hnc, hm, hsz, htake⟩
  · injection hv with h1 h2 h3
    exact .inl ⟨h1, h2, h3⟩
  · injection hv with h1 h2 h3
    subst h3
    exact .inr ⟨g, cur, (0, 0), h1, hg, .inl rfl, by assumption, by assumption, hsz, htake⟩
/-- A contract out of a walk that hands back a new row. -/
theorem fnok_own (h : ∀ xs hp r, sp xs hp = some r → r.pre → hp = [] ∧ ∃ e l, r.hp = [.row e 1 0 (Bs l)] ∧ ∀ (w : World) (S : Nat → Prop) (ρ : Rho) (args : List Value), (∀ b, S b → b < w.heap.size) → ArgsOk w S ρ xs args →
    Calls P f args.toArray w fun e' w' => ∃ v A c, e' = .returned v ∧ Below w.heap.size w w' ∧ Own w' w.heap.size e A c l ∧ ∀ (w : World) (S : Nat → Prop) (ρ : Rho), ρ 0 0 = some ⟨A, c, l.length, 1⟩ → Vl w S ρ r.v v) : FnOk P f sp := by
  intro xs hp r hs hp' w S ρ args H ha
  obtain ⟨rfl, e, l, k2, hc⟩ := h xs hp r hs hp'
  refine (hc w S ρ args H.slt ha).mono ?_
  rintro e' w' ⟨v, A, c, rfl, hb, ho, hv⟩
  have hn : ∀ u, ρ 0 u = none := fun u => H.new 0 (Nat.zero_le _) u
  obtain ⟨H', hE⟩ := H.push (w' := w') (S' := S) (ρ' := rset ρ 0 0 ⟨A, c, l.length, 1⟩) (o' := .row e 1 0 (Bs l)) hb (fun _ h => h) (fun _ h => .inl h)
    (fun i v L hL => by
      unfold rset
      by_cases hi : i = 0 ∧ v = 0
      · obtain ⟨rfl, rfl⟩ := hi; rw [hn] at hL; cases hL
      · rw [if_neg hi]; exact hL)
    (fun i v hi => by unfold rset; rw [if_neg (by intro hh; exact hi hh.1)])
    ⟨⟨A, c, l.length, 1⟩, l.map U, by simp [rset], (by simp [Bs] : l.length = (Bs l).length), rfl, ho.rw1, css_bytes l, fun b hb hS => by
      have := (ho.lt b hb).1
      have := H.slt _ hS; omega⟩
    (fun v hv => by
      have hv0 : 0 < v := hv
      show rset ρ 0 0 _ 0 v = none
      unfold rset; rw [if_neg (by intro hh; omega)]; exact hn v)
    (fun b hb => by
      have hb' : ((rset ρ 0 0 ⟨A, c, l.length, 1⟩ 0 0).bind fun L => ablk L.A) = some b := hb
      have : ablk A = some b := by simpa [rset] using hb'
      exact (ho.lt b this).1)
  exact ⟨_, S, _, rfl, hv _ _ _ (by simp [rset]), by rw [k2]; exact H', hE, fun b h => .inl h⟩
end

theorem loop2P {Φ : Phi} {m : Nat} {c : ACode} {Q : Exit → S2 → Prop} {s : S2} {α : Type} (nils : List (Nat × TypeId × Nat)) (sl ids : List Nat) (st : α → St) (Inv : α → Prop) (μ : α → Nat) (a0 : α) (hk : ent nils sl ids (toS s) = some (st a0)) (h0 : Inv a0) (hm : nodupB ids = true ∧ ids.take m = List.range m)
    (h : ∀ a, Inv a → ∀ R : S2 → Prop, (∀ s' a', Inv a' → μ a' < μ a → kp sl ids.length (toS s') = some (st a') → R s') → awp2 Φ m c (thenQ2 R Q) (ofS (st a))) : loopQ2 m (awp2 Φ m c) Q s :=
  loop2 nils sl ids st Inv μ a0 hk h0 hm fun a ha => h a ha _ fun _ a' h1 h2 h3 => ⟨a', h1, h2, h3⟩
end Go.Proofs.YtjdlngbobnknmaaDoor
