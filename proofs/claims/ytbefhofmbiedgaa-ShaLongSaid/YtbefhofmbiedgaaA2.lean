/- The abstract heap and the abstract state; reading. Over any program; no condition. -/
import Derived.Test.YtbefhofmbiedgaaA1
namespace Go.Proofs.Ytbefhofmbiedgaa
set_option linter.all false
open Go.RowKit

inductive AObj where
  | cells (t : TypeId) (ps : List (Nat × AV))
  | row (e : TypeId) (sz ver : Nat) (xs : List AV)
  | froz (sz ver : Nat) (xs : List AV)
  | gone
  deriving Inhabited

/-- The marked cells lie behind the row. -/
def Mk (fr : Nat × Nat) (n : Nat) : Prop := fr.1 = fr.2 ∨ n ≤ fr.1
theorem Mk.out {fr : Nat × Nat} {n : Nat} (h : Mk fr n) : ∀ j, j < n → ¬ (fr.1 ≤ j ∧ j < fr.2) := by
  intro j hj hh
  rcases h with h | h <;> omega
/-- A row of the call's own in memory; some cells behind its end may be marked. -/
def Rw (w : World) (e : TypeId) (L : Lc) (us : List Value) : Prop :=
  us.length = L.n * L.sz ∧ ((L.A = none ∧ L.n = 0 ∧ L.c = 0) ∨ ∃ g cur fr, L.A = some ⟨g, 0, none⟩ ∧ w.heap[g]? = some (.cells cur e fr) ∧ Mk fr cur.size ∧
    L.n ≤ L.c ∧ L.c ≤ 9223372036854775807 ∧ cur.size = L.c * L.sz ∧ cur.toList.take (L.n * L.sz) = us)
def ObjOk (w : World) (S : Nat → Prop) (ρ : Rho) (id : Nat) : AObj → Prop
  | .cells t ps => ∃ g us, ρ id 0 = some ⟨some ⟨g, 0, none⟩, 0, 0, 0⟩ ∧ w.heap[g]? = some (.cells us.toArray t (0, 0)) ∧ Css w S ρ ps us ∧ ¬ S g
  | .row e sz ver xs => ∃ L us, ρ id ver = some L ∧ L.n = xs.length ∧ L.sz = sz ∧ Rw w e L us ∧ Css w S rho0 (prs sz xs) us ∧ (∀ g, ablk L.A = some g → ¬ S g)
  | .froz sz ver xs => ∃ L, ρ id ver = some L ∧ L.n = xs.length ∧ L.sz = sz ∧ Cs w S rho0 (.sl sz xs) [.slice L.A L.n L.c]
  | .gone => ∀ v, ρ id v = none
def AObj.ver : AObj → Nat
  | .row _ _ v _ => v
  | .froz _ v _ => v
  | _ => 0
def AObj.blk (ρ : Rho) (id : Nat) : AObj → Option Nat
  | .cells _ _ => (ρ id 0).bind fun L => ablk L.A
  | .row _ _ v _ => (ρ id v).bind fun L => ablk L.A
  | _ => none

/-- The memory of a call: its own objects, apart from each other and from what is stable. -/
structure HeapOk (F : Nat → Prop) (w0 : World) (S : Nat → Prop) (ρ : Rho) (hp : List AObj) (w : World) : Prop where
  kept : Kept F w0 w
  ob : ∀ (id : Nat) (o : AObj), hp[id]? = some o → ObjOk w S ρ id o
  apart : ∀ (i j : Nat) (x y : AObj), i ≠ j → hp[i]? = some x → hp[j]? = some y → ∀ b, x.blk ρ i = some b → y.blk ρ j ≠ some b
  mine : ∀ (id : Nat) (o : AObj), hp[id]? = some o → ∀ b, o.blk ρ id = some b → F b ∨ w0.heap.size ≤ b
  slt : ∀ b, S b → b < w.heap.size
  new : ∀ id, hp.length ≤ id → ∀ v, ρ id v = none
  vers : ∀ (id : Nat) (o : AObj), hp[id]? = some o → ∀ v, o.ver < v → ρ id v = none

def lk : List (Nat × AV) → Nat → AV
  | [], _ => .top
  | (k, v) :: r, i => if k = i then v else lk r i
structure St where
  fr : List (Nat × AV)
  hp : List AObj
inductive Opd where
  | t (n : Nat)
  | c (x : AV)
def St.ev (s : St) : Opd → AV
  | .t n => lk s.fr n
  | .c x => x
def FrOk (w : World) (S : Nat → Prop) (ρ : Rho) (fr : List (Nat × AV)) (ts : Array Value) : Prop := ∀ t, Vl w S ρ (lk fr t) (ts.getD t undef)

theorem FrOk.put {w : World} {S : Nat → Prop} {ρ : Rho} {fr : List (Nat × AV)} {ts : Array Value} (h : FrOk w S ρ fr ts) {d : Nat} (hd : d < ts.size) {x : AV} {v : Value} (hv : Vl w S ρ x v) : FrOk w S ρ ((d, x) :: fr) (ts.setIfInBounds d v) := by
  intro t
  by_cases e : d = t
  · subst e; simp [lk, hd, hv]
  · simp only [lk, if_neg e]
    have : (ts.setIfInBounds d v).getD t undef = ts.getD t undef := by simp [Array.getElem?_setIfInBounds_ne e]
    rw [this]; exact h t
theorem FrOk.ext {w w' : World} {S S' : Nat → Prop} {ρ ρ' : Rho} {fr : List (Nat × AV)} {ts : Array Value} (h : FrOk w S ρ fr ts) (e : Ext w w' S S' ρ ρ') : FrOk w' S' ρ' fr ts := fun t => (h t).ext e

/-! ### What a slice reads as -/
def nilS : Value → Bool
  | .slice none 0 0 => true
  | _ => false
theorem nilS_eq {u : Value} (h : nilS u = true) : u = .slice none 0 0 := by
  unfold nilS at h
  split at h
  · rfl
  · cases h
def view (hp : List AObj) (sz : Nat) : AV → Option (List AV)
  | .sl s xs => if s = sz then some xs else none
  | .con u => if nilS u then some [] else none
  | .own id v => match hp[id]? with
    | some (.row _ s v' xs) => if v = v' ∧ s = sz then some xs else none
    | some (.froz s v' xs) => if v = v' ∧ s = sz then some xs else none
    | _ => none
  | .ownv id v i m => match hp[id]? with
    | some (.row _ s v' xs) => if v = v' ∧ s = sz then some ((xs.drop i).take m) else none
    | some (.froz s v' xs) => if v = v' ∧ s = sz then some ((xs.drop i).take m) else none
    | _ => none
  | _ => none

/-- The slice '.slice A n c' reads as xs now. -/
structure Mem (w : World) (S : Nat → Prop) (sz : Nat) (xs : List AV) (A : Option Addr) (n c : Nat) (us : List Value) : Prop where
  len : n = xs.length
  css : Css w S rho0 (prs sz xs) us
  cell : 0 < us.length → ∃ b o, A = some ⟨b, o, none⟩ ∧ ∀ j, j < us.length → w.cell? ⟨b, o + j, none⟩ = us[j]?
  cap : n ≤ c
  max : c ≤ 9223372036854775807

section
variable {F : Nat → Prop} {w0 w : World} {S : Nat → Prop} {ρ : Rho} {hp : List AObj}
theorem Mem.ulen {sz : Nat} {xs : List AV} {A : Option Addr} {n c : Nat} {us : List Value} (h : Mem w S sz xs A n c us) : us.length = xs.length * sz := by rw [h.css.len, psz_prs]
theorem Mem.of_sl' {x : AV} {vs : List Value} (h : Cs w S ρ x vs) : ∀ sz xs, x = .sl sz xs → ∀ v, vs = [v] → ∃ A n c us, v = .slice A n c ∧ Mem w S sz xs A n c us := by
  cases h with
  | sl0 sz A c hc => intro sz' xs' e v ev; cases e; cases ev; exact ⟨A, 0, c, [], rfl, rfl, rfl, fun h => by simp at h, Nat.zero_le _, hc⟩
  | sl sz xs us b o c hS h1 h2 h3 h4 h5 => intro sz' xs' e v ev; cases e; cases ev; exact ⟨_, _, c, us, rfl, rfl, h1.parts, fun _ => ⟨b, o, rfl, h3⟩, h4, h5⟩
  | _ => intro sz' xs' e; cases e
theorem Mem.of_sl {sz : Nat} {xs : List AV} {v : Value} (h : Cs w S ρ (.sl sz xs) [v]) : ∃ A n c us, v = .slice A n c ∧ Mem w S sz xs A n c us := Mem.of_sl' h _ _ rfl _ rfl
theorem Vl.sl {sz : Nat} {xs : List AV} {v : Value} (h : Vl w S ρ (.sl sz xs) v) : Cs w S ρ (.sl sz xs) [v] := by
  rcases h with h | ⟨us, h, e⟩
  · cases h
  · cases h <;> (cases e; first | exact .sl0 _ _ _ (by assumption) | exact .sl _ _ _ _ _ _ (by assumption) (by assumption) (by assumption) (by assumption) (by assumption) (by assumption))
theorem Vl.own {id ver : Nat} {v : Value} (h : Vl w S ρ (.own id ver) v) : ∃ L, ρ id ver = some L ∧ v = .slice L.A L.n L.c := by
  rcases h with h | ⟨us, h, e⟩
  · cases h
  · cases h with
    | own _ _ L hL => exact ⟨L, hL, e⟩
theorem Vl.ownv {id ver i m : Nat} {v : Value} (h : Vl w S ρ (.ownv id ver i m) v) : ∃ L A, ρ id ver = some L ∧ i + m ≤ L.n ∧ (0 < m ∨ i = 0 → A = cutA L.A L.c i L.sz) ∧ v = .slice A m (L.c - i) := by
  rcases h with h | ⟨us, h, e⟩
  · cases h
  · cases h with
    | ownv _ _ _ _ L A hL hm hA => exact ⟨L, A, hL, hm, hA, e⟩
theorem Rw.mem {e : TypeId} {L : Lc} {us : List Value} {xs : List AV} (h : Rw w e L us) (hn : L.n = xs.length) (hc : Css w S rho0 (prs L.sz xs) us) : Mem w S L.sz xs L.A L.n L.c us := by
  obtain ⟨hl, h⟩ := h
  rcases h with ⟨h1, h2, h3⟩ | ⟨g, cur, fr, h1, h2, h3, h4, h5, h6, h7⟩
  · have hu : us = [] := List.eq_nil_of_length_eq_zero (by rw [hl, h2, Nat.zero_mul])
    subst hu
    exact ⟨hn, hc, fun h => by simp at h, by omega, by omega⟩
  · refine ⟨hn, hc, fun _ => ⟨g, 0, h1, fun j hj => ?_⟩, h4, h5⟩
    rw [Nat.zero_add, cell_of_row w g j cur e fr h2, ← h7, List.getElem?_take, if_pos (by rw [← h7] at hj; simp at hj; omega)]
    simp
theorem Mem.cut {sz : Nat} {xs : List AV} {A : Option Addr} {n c : Nat} {us : List Value} (h : Mem w S sz xs A n c us) {i j : Nat} (hij : i ≤ j) (hj : j ≤ xs.length) :
    Mem w S sz ((xs.take j).drop i) (cutA A c i sz) (j - i) (c - i) ((us.take (j * sz)).drop (i * sz)) := by
  have hlen : ((us.take (j * sz)).drop (i * sz)).length = (j - i) * sz := by
    rw [List.length_drop, List.length_take, h.ulen, Nat.min_eq_left (Nat.mul_le_mul_right _ hj), Nat.sub_mul]
  have hcap := h.cap
  have hn := h.len
  refine ⟨by rw [part_len' xs i j hj], h.css.cut hij hj, fun hl => ?_, by omega, by have := h.max; omega⟩
  rw [hlen] at hl
  have hji : i < j := by
    rcases Nat.lt_or_ge i j with h1 | h1
    · exact h1
    · have : j - i = 0 := by omega
      rw [this, Nat.zero_mul] at hl; omega
  have hsz : 0 < sz := by
    rcases Nat.eq_zero_or_pos sz with h1 | h1
    · subst h1; simp at hl
    · exact h1
  obtain ⟨b, o, rfl, hcell⟩ := h.cell (by rw [h.ulen]; exact Nat.mul_pos (by omega) hsz)
  refine ⟨b, o + i * sz, ?_, fun k hk => ?_⟩
  · unfold cutA; rw [if_neg (by omega)]; simp [add_spot]
  · rw [hlen] at hk
    have hk2 : i * sz + k < j * sz := by rw [Nat.sub_mul] at hk; have := Nat.mul_le_mul_right sz hij; omega
    rw [List.getElem?_drop, List.getElem?_take, if_pos hk2, ← hcell (i * sz + k) (by rw [h.ulen]; exact Nat.lt_of_lt_of_le hk2 (Nat.mul_le_mul_right _ hj)), Nat.add_assoc]
where
  part_len' (xs : List AV) (i j : Nat) (hj : j ≤ xs.length) : ((xs.take j).drop i).length = j - i := by rw [List.length_drop, List.length_take]; omega

/-- The objects that are there are as told. -/
def ObsOk (w : World) (S : Nat → Prop) (ρ : Rho) (hp : List AObj) : Prop := ∀ (id : Nat) (o : AObj), hp[id]? = some o → o ≠ .gone → ObjOk w S ρ id o
theorem HeapOk.obs (H : HeapOk F w0 S ρ hp w) : ObsOk w S ρ hp := fun id o h _ => H.ob id o h
theorem view_ok (H : ObsOk w S ρ hp) {sz : Nat} {x : AV} {xs : List AV} {v : Value} (hv : view hp sz x = some xs) (h : Vl w S ρ x v) : ∃ A n c us, v = .slice A n c ∧ Mem w S sz xs A n c us := by
  cases x <;> simp only [view, reduceCtorEq] at hv
  case con u =>
    split at hv
    · rename_i hu; injection hv with hv; subst hv
      exact ⟨none, 0, 0, [], h.con.trans (nilS_eq hu), rfl, rfl, fun h => by simp at h, Nat.le_refl _, by omega⟩
    · cases hv
  case sl s ys =>
    split at hv
    · rename_i e; subst e; injection hv with hv; subst hv; exact Mem.of_sl h.sl
    · cases hv
  case own id ver =>
    obtain ⟨L, hL, rfl⟩ := h.own
    split at hv
    · rename_i e s v' ys ho
      split at hv
      · rename_i e; obtain ⟨rfl, rfl⟩ := e; injection hv with hv; subst hv
        obtain ⟨L', us, h1, h2, h3, h4, h5, h6⟩ := H _ _ ho (by simp)
        rw [hL] at h1; injection h1 with h1; subst h1
        subst h3
        exact ⟨_, _, _, us, rfl, h4.mem h2 h5⟩
      · cases hv
    · rename_i s v' ys ho
      split at hv
      · rename_i e; obtain ⟨rfl, rfl⟩ := e; injection hv with hv; subst hv
        obtain ⟨L', h1, h2, h3, h4⟩ := H _ _ ho (by simp)
        rw [hL] at h1; injection h1 with h1; subst h1
        exact Mem.of_sl h4
      · cases hv
    · cases hv
  case ownv id ver i m =>
    obtain ⟨L, A0, hL, hm, hA0, rfl⟩ := h.ownv
    have key : ∀ {sz : Nat} {ys : List AV}, L.n = ys.length → (∃ us, Mem w S sz ys L.A L.n L.c us) → L.sz = sz → ∃ A n c us, Value.slice A0 m (L.c - i) = .slice A n c ∧ Mem w S sz ((ys.drop i).take m) A n c us := by
      intro sz ys hn ⟨us, hM⟩ hs
      rcases Nat.eq_zero_or_pos m with h0 | h0
      · subst h0
        have := hM.max
        exact ⟨_, _, _, [], rfl, by simp, by simp [Css, prs], fun h => by simp at h, Nat.zero_le _, by omega⟩
      rw [hA0 (.inl h0)]
      have hc := hM.cut (i := i) (j := i + m) (by omega) (by omega)
      subst hs
      have e1 : (ys.take (i + m)).drop i = (ys.drop i).take m := by rw [List.take_drop]
      rw [e1, show i + m - i = m by omega] at hc
      exact ⟨_, _, _, _, rfl, hc⟩
    split at hv
    · rename_i e s v' ys ho
      split at hv
      · rename_i e; obtain ⟨rfl, rfl⟩ := e; injection hv with hv; subst hv
        obtain ⟨L', us, h1, h2, h3, h4, h5, h6⟩ := H _ _ ho (by simp)
        rw [hL] at h1; injection h1 with h1; subst h1
        subst h3
        exact key h2 ⟨us, h4.mem h2 h5⟩ rfl
      · cases hv
    · rename_i s v' ys ho
      split at hv
      · rename_i e; obtain ⟨rfl, rfl⟩ := e; injection hv with hv; subst hv
        obtain ⟨L', h1, h2, h3, h4⟩ := H _ _ ho (by simp)
        rw [hL] at h1; injection h1 with h1; subst h1
        obtain ⟨A, n, c, us, e1, hM⟩ := Mem.of_sl h4
        injection e1 with e1 e2 e3
        subst e1 e2 e3
        exact key h2 ⟨us, hM⟩ h3
      · cases hv
    · cases hv
end
end Go.Proofs.Ytbefhofmbiedgaa
