/- Abstract values: what a value of the model reads as, with no address in sight; when it goes on being true. Over any program; no condition. -/
import Derived.Test.YtbefhofmbiedgaaSepF
namespace Go.Proofs.Ytbefhofmbiedgaa
set_option linter.all false
open Go.RowKit

/-- Where an object of the call's own lies: its address, capacity, number of elements, cells of an element. -/
structure Lc where
  A : Option Addr
  c : Nat
  n : Nat
  sz : Nat
/-- Of an object's number and version: where it lies. -/
abbrev Rho := Nat → Nat → Option Lc
def rho0 : Rho := fun _ _ => none

inductive AV where
  | top
  | int (k : IntKind) (n : Int)
  | bool (b : Bool)
  | str (l : List UInt8)
  | con (x : Value)
  | blob (cs : List Value)
  | agg (ps : List (Nat × AV))
  | tup (xs : List AV)
  | sl (sz : Nat) (xs : List AV)
  | ptr (sz : Nat) (x : AV) (o off : Nat)
  | own (id ver : Nat)
  | ownv (id ver i m : Nat)
  | ref (id o off : Nat)
  | rowp (id ver i : Nat) (z : AV) (o off : Nat)
  | fn (f : Fn) (first cap : List AV)
  | iface (t : TypeId) (x : AV)
  deriving Inhabited

def AV.multi : AV → Bool
  | .blob _ | .agg _ => true
  | _ => false
def wrapv (x : AV) (us : List Value) : Value := if x.multi then .agg us.toArray else us.headD undef
def prs (sz : Nat) (xs : List AV) : List (Nat × AV) := xs.map fun x => (sz, x)

/-- The cells that a value is made of. -/
inductive Cs (w : World) (S : Nat → Prop) : Rho → AV → List Value → Prop
  | top {ρ} (us : List Value) (h : ∀ u ∈ us, u.oneCell' = true) : Cs w S ρ .top us
  | int {ρ} (k : IntKind) (n : Int) : Cs w S ρ (.int k n) [.int k n]
  | bool {ρ} (b : Bool) : Cs w S ρ (.bool b) [.bool b]
  | str {ρ} (l : List UInt8) : Cs w S ρ (.str l) [.string ⟨l.toArray⟩]
  | con {ρ} (x : Value) (h : x.oneCell' = true) : Cs w S ρ (.con x) [x]
  | blob {ρ} (cs : List Value) (h : ∀ u ∈ cs, u.oneCell' = true) : Cs w S ρ (.blob cs) cs
  | agg {ρ} (ps : List (Nat × AV)) (uss : List (List Value)) : uss.length = ps.length → (∀ i, i < ps.length → (uss.getD i []).length = (ps.getD i (0, .top)).1) →
      (∀ i, i < ps.length → Cs w S ρ (ps.getD i (0, .top)).2 (uss.getD i [])) → Cs w S ρ (.agg ps) uss.flatten
  | sl0 {ρ} (sz : Nat) (A : Option Addr) (c : Nat) (h : c ≤ 9223372036854775807) : Cs w S ρ (.sl sz []) [.slice A 0 c]
  | sl {ρ} (sz : Nat) (xs : List AV) (us : List Value) (b o c : Nat) : S b → Cs w S rho0 (.agg (prs sz xs)) us → us.length = xs.length * sz →
      (∀ j, j < us.length → w.cell? ⟨b, o + j, none⟩ = us[j]?) → xs.length ≤ c → c ≤ 9223372036854775807 → Cs w S ρ (.sl sz xs) [.slice (some ⟨b, o, none⟩) xs.length c]
  | ptr {ρ} (sz : Nat) (x : AV) (o off : Nat) (us : List Value) (b base : Nat) : S b → Cs w S rho0 x us → us.length = sz →
      (∀ j, j < us.length → w.cell? ⟨b, base + j, none⟩ = us[j]?) → Cs w S ρ (.ptr sz x o off) [.pointer (some ⟨b, base + (o + off), none⟩)]
  | own {ρ} (id ver : Nat) (L : Lc) : ρ id ver = some L → Cs w S ρ (.own id ver) [.slice L.A L.n L.c]
  | ownv {ρ} (id ver i m : Nat) (L : Lc) (A : Option Addr) : ρ id ver = some L → i + m ≤ L.n → (0 < m ∨ i = 0 → A = cutA L.A L.c i L.sz) → Cs w S ρ (.ownv id ver i m) [.slice A m (L.c - i)]
  | ref {ρ} (id o off g : Nat) (L : Lc) : ρ id 0 = some L → L.A = some ⟨g, 0, none⟩ → Cs w S ρ (.ref id o off) [.pointer (some ⟨g, o + off, none⟩)]
  | rowp {ρ} (id ver i : Nat) (z : AV) (o off g : Nat) (L : Lc) : ρ id ver = some L → L.A = some ⟨g, 0, none⟩ → Cs w S ρ (.rowp id ver i z o off) [.pointer (some ⟨g, i * L.sz + (o + off), none⟩)]
  | fn {ρ} (f : Fn) (first cap : List AV) (us vs : List Value) : us.length = first.length → vs.length = cap.length →
      (∀ i, i < first.length → Cs w S ρ (first.getD i .top) [us.getD i undef]) → (∀ i, i < cap.length → Cs w S ρ (cap.getD i .top) [vs.getD i undef]) →
      Cs w S ρ (.fn f first cap) [.func f us.toArray vs.toArray]
  | iface {ρ} (t : TypeId) (x : AV) (us : List Value) : Cs w S ρ x us → Cs w S ρ (.iface t x) [.iface t (wrapv x us)]

/-- Nothing that is told of stable memory and of known objects has turned. -/
structure Ext (w w' : World) (S S' : Nat → Prop) (ρ ρ' : Rho) : Prop where
  mem : ∀ b, S b → w'.heap[b]? = w.heap[b]?
  st : ∀ b, S b → S' b
  loc : ∀ id ver L, ρ id ver = some L → ρ' id ver = some L
theorem Ext.refl (w : World) (S : Nat → Prop) (ρ : Rho) : Ext w w S S ρ ρ := ⟨fun _ _ => rfl, fun _ h => h, fun _ _ _ h => h⟩
theorem Ext.trans {w w' w'' : World} {S S' S'' : Nat → Prop} {ρ ρ' ρ'' : Rho} (h : Ext w w' S S' ρ ρ') (k : Ext w' w'' S' S'' ρ' ρ'') : Ext w w'' S S'' ρ ρ'' :=
  ⟨fun b hb => (k.mem b (h.st b hb)).trans (h.mem b hb), fun b hb => k.st b (h.st b hb), fun id ver L hl => k.loc id ver L (h.loc id ver L hl)⟩

theorem Cs.ext {w w' : World} {S S' : Nat → Prop} {ρ : Rho} {x : AV} {us : List Value} (h : Cs w S ρ x us) : ∀ {ρ' : Rho}, (∀ b, S b → w'.heap[b]? = w.heap[b]?) → (∀ b, S b → S' b) → (∀ id ver L, ρ id ver = some L → ρ' id ver = some L) → Cs w' S' ρ' x us := by
  induction h with
  | top us h => intros; exact .top us h
  | int k n => intros; exact .int k n
  | bool b => intros; exact .bool b
  | str l => intros; exact .str l
  | con x h => intros; exact .con x h
  | blob cs h => intros; exact .blob cs h
  | agg ps uss h1 h2 _ ih => intro ρ' hm hs hl; exact .agg ps uss h1 h2 fun i hi => ih i hi hm hs hl
  | sl0 sz A c h => intros; exact .sl0 sz A c h
  | sl sz xs us b o c hb _ h2 h3 h4 h5 ih =>
    intro ρ' hm hs hl
    exact .sl sz xs us b o c (hs b hb) (ih hm hs (fun _ _ _ h => h)) h2 (fun j hj => (World.cell?_of_block (hm b hb)).trans (h3 j hj)) h4 h5
  | ptr sz x o off us b base hb _ h2 h3 ih =>
    intro ρ' hm hs hl
    exact .ptr sz x o off us b base (hs b hb) (ih hm hs (fun _ _ _ h => h)) h2 (fun j hj => (World.cell?_of_block (hm b hb)).trans (h3 j hj))
  | own id ver L h => intro ρ' hm hs hl; exact .own id ver L (hl _ _ _ h)
  | ownv id ver i m L A h h2 h3 => intro ρ' hm hs hl; exact .ownv id ver i m L A (hl _ _ _ h) h2 h3
  | ref id o off g L h h2 => intro ρ' hm hs hl; exact .ref id o off g L (hl _ _ _ h) h2
  | rowp id ver i z o off g L h h2 => intro ρ' hm hs hl; exact .rowp id ver i z o off g L (hl _ _ _ h) h2
  | fn f first cap us vs h1 h2 _ _ ih1 ih2 => intro ρ' hm hs hl; exact .fn f first cap us vs h1 h2 (fun i hi => ih1 i hi hm hs hl) (fun i hi => ih2 i hi hm hs hl)
  | iface t x us _ ih => intro ρ' hm hs hl; exact .iface t x us (ih hm hs hl)

def Vl1 (w : World) (S : Nat → Prop) (ρ : Rho) (x : AV) (v : Value) : Prop := x = .top ∨ ∃ us, Cs w S ρ x us ∧ v = wrapv x us
/-- A value in a slot reads as x. -/
def Vl (w : World) (S : Nat → Prop) (ρ : Rho) : AV → Value → Prop
  | .tup xs, v => ∃ vs : List Value, v = .tuple vs.toArray ∧ vs.length = xs.length ∧ ∀ i, i < xs.length → Vl1 w S ρ (xs.getD i .top) (vs.getD i undef)
  | x, v => Vl1 w S ρ x v

section
variable {w w' : World} {S S' : Nat → Prop} {ρ ρ' : Rho}
theorem Vl1.ext {x : AV} {v : Value} (h : Vl1 w S ρ x v) (e : Ext w w' S S' ρ ρ') : Vl1 w' S' ρ' x v := by
  rcases h with h | ⟨us, h, h2⟩
  · exact .inl h
  · exact .inr ⟨us, h.ext e.mem e.st e.loc, h2⟩
theorem Vl.ext {x : AV} {v : Value} (h : Vl w S ρ x v) (e : Ext w w' S S' ρ ρ') : Vl w' S' ρ' x v := by
  cases x
  case tup xs => obtain ⟨vs, h1, h2, h3⟩ := h; exact ⟨vs, h1, h2, fun i hi => (h3 i hi).ext e⟩
  all_goals exact Vl1.ext h e
theorem Vl.top (v : Value) : Vl w S ρ .top v := .inl rfl
theorem Vl.int {k : IntKind} {n : Int} {v : Value} (h : Vl w S ρ (.int k n) v) : v = .int k n := by
  rcases h with h | ⟨us, h, rfl⟩
  · cases h
  · cases h; rfl
theorem Vl.bool {b : Bool} {v : Value} (h : Vl w S ρ (.bool b) v) : v = .bool b := by
  rcases h with h | ⟨us, h, rfl⟩
  · cases h
  · cases h; rfl
theorem Vl.str {l : List UInt8} {v : Value} (h : Vl w S ρ (.str l) v) : v = .string ⟨l.toArray⟩ := by
  rcases h with h | ⟨us, h, rfl⟩
  · cases h
  · cases h; rfl
theorem Vl.con {x : Value} {v : Value} (h : Vl w S ρ (.con x) v) : v = x := by
  rcases h with h | ⟨us, h, rfl⟩
  · cases h
  · cases h; rfl
theorem Vl.blob {cs : List Value} {v : Value} (h : Vl w S ρ (.blob cs) v) : v = .agg cs.toArray := by
  rcases h with h | ⟨us, h, rfl⟩
  · cases h
  · cases h; rfl
theorem Vl.agg {ps : List (Nat × AV)} {v : Value} (h : Vl w S ρ (.agg ps) v) : ∃ us, Cs w S ρ (.agg ps) us ∧ v = .agg us.toArray := by
  rcases h with h | ⟨us, h, rfl⟩
  · cases h
  · exact ⟨us, h, rfl⟩
theorem Vl.int' (k : IntKind) (n : Int) : Vl w S ρ (.int k n) (.int k n) := .inr ⟨_, .int k n, rfl⟩
theorem Vl.bool' (b : Bool) : Vl w S ρ (.bool b) (.bool b) := .inr ⟨_, .bool b, rfl⟩
theorem Vl.str' (l : List UInt8) : Vl w S ρ (.str l) (.string ⟨l.toArray⟩) := .inr ⟨_, .str l, rfl⟩
theorem Vl.con' (x : Value) (h : x.oneCell' = true) : Vl w S ρ (.con x) x := .inr ⟨_, .con x h, rfl⟩
theorem Vl.blob' (cs : List Value) (h : ∀ u ∈ cs, u.oneCell' = true) : Vl w S ρ (.blob cs) (.agg cs.toArray) := .inr ⟨_, .blob cs h, rfl⟩
theorem Vl.agg' {ps : List (Nat × AV)} {us : List Value} (h : Cs w S ρ (.agg ps) us) : Vl w S ρ (.agg ps) (.agg us.toArray) := .inr ⟨_, h, rfl⟩
theorem Vl.of1 {x : AV} {v : Value} (hx : ∀ xs, x ≠ .tup xs) (h : Vl1 w S ρ x v) : Vl w S ρ x v := by
  cases x
  case tup xs => exact absurd rfl (hx xs)
  all_goals exact h
theorem Vl.to1 {x : AV} {v : Value} (hx : ∀ xs, x ≠ .tup xs) (h : Vl w S ρ x v) : Vl1 w S ρ x v := by
  cases x
  case tup xs => exact absurd rfl (hx xs)
  all_goals exact h
end

/-- Each cell is one. -/
theorem Cs.one {w : World} {S : Nat → Prop} {ρ : Rho} {x : AV} {us : List Value} (h : Cs w S ρ x us) : ∀ u ∈ us, u.oneCell' = true := by
  induction h with
  | top us h => exact h
  | con x h => intro u hu; simp only [List.mem_singleton] at hu; subst hu; exact h
  | blob cs h => exact h
  | agg ps uss h1 h2 _ ih =>
    intro u hu
    obtain ⟨us, hus, hu⟩ := List.mem_flatten.1 hu
    obtain ⟨i, hi, e⟩ := List.getElem_of_mem hus
    have := ih i (by omega)
    rw [List.getD_eq_getElem?_getD, List.getElem?_eq_getElem hi] at this
    exact this u (by simpa [e] using hu)
  | _ => intro u hu; simp only [List.mem_singleton] at hu; subst hu; rfl

/-! ### Parts, one behind the other -/
def Css (w : World) (S : Nat → Prop) (ρ : Rho) : List (Nat × AV) → List Value → Prop
  | [], us => us = []
  | (s, x) :: ps, us => ∃ u1 u2, us = u1 ++ u2 ∧ u1.length = s ∧ Cs w S ρ x u1 ∧ Css w S ρ ps u2
section
variable {w w' : World} {S S' : Nat → Prop} {ρ ρ' : Rho}
theorem css_of_uss (ps : List (Nat × AV)) : ∀ (uss : List (List Value)), uss.length = ps.length → (∀ i, i < ps.length → (uss.getD i []).length = (ps.getD i (0, .top)).1) →
    (∀ i, i < ps.length → Cs w S ρ (ps.getD i (0, .top)).2 (uss.getD i [])) → Css w S ρ ps uss.flatten := by
  induction ps with
  | nil => intro uss h1 _ _; obtain rfl := List.eq_nil_of_length_eq_zero h1; rfl
  | cons p ps ih =>
    intro uss h1 h2 h3
    cases uss with
    | nil => simp at h1
    | cons u uss =>
      refine ⟨u, uss.flatten, rfl, h2 0 (by simp), h3 0 (by simp), ih uss (by simpa using h1) (fun i hi => ?_) (fun i hi => ?_)⟩
      · have := h2 (i + 1) (by simpa using hi); simpa using this
      · have := h3 (i + 1) (by simpa using hi); simpa using this
theorem uss_of_css (ps : List (Nat × AV)) : ∀ (us : List Value), Css w S ρ ps us → ∃ uss : List (List Value), us = uss.flatten ∧ uss.length = ps.length ∧ (∀ i, i < ps.length → (uss.getD i []).length = (ps.getD i (0, .top)).1) ∧
    (∀ i, i < ps.length → Cs w S ρ (ps.getD i (0, .top)).2 (uss.getD i [])) := by
  induction ps with
  | nil => intro us h; exact ⟨[], h, rfl, fun i hi => by simp at hi, fun i hi => by simp at hi⟩
  | cons p ps ih =>
    intro us h
    obtain ⟨s, x⟩ := p
    obtain ⟨u1, u2, rfl, h1, h2, h3⟩ := h
    obtain ⟨uss, rfl, h4, h5, h6⟩ := ih u2 h3
    refine ⟨u1 :: uss, rfl, by simp [h4], fun i hi => ?_, fun i hi => ?_⟩
    · cases i with
      | zero => simpa using h1
      | succ i => simpa using h5 i (by simpa using hi)
    · cases i with
      | zero => simpa using h2
      | succ i => simpa using h6 i (by simpa using hi)
theorem Cs.parts {ps : List (Nat × AV)} {us : List Value} (h : Cs w S ρ (.agg ps) us) : Css w S ρ ps us := by
  cases h with
  | agg _ uss h1 h2 h3 => exact css_of_uss ps uss h1 h2 h3
theorem Css.cs {ps : List (Nat × AV)} {us : List Value} (h : Css w S ρ ps us) : Cs w S ρ (.agg ps) us := by
  obtain ⟨uss, rfl, h1, h2, h3⟩ := uss_of_css ps us h
  exact .agg ps uss h1 h2 h3
theorem Css.ext {ps : List (Nat × AV)} {us : List Value} (h : Css w S ρ ps us) (e : Ext w w' S S' ρ ρ') : Css w' S' ρ' ps us := (h.cs.ext e.mem e.st e.loc).parts
theorem Css.append {ps qs : List (Nat × AV)} {us vs : List Value} (h : Css w S ρ ps us) (k : Css w S ρ qs vs) : Css w S ρ (ps ++ qs) (us ++ vs) := by
  induction ps generalizing us with
  | nil => obtain rfl := h; exact k
  | cons p ps ih =>
    obtain ⟨s, x⟩ := p
    obtain ⟨u1, u2, rfl, h1, h2, h3⟩ := h
    exact ⟨u1, u2 ++ vs, by rw [List.append_assoc], h1, h2, ih h3⟩
/-- The cells of the parts' first ones. -/
def psz : List (Nat × AV) → Nat
  | [] => 0
  | (s, _) :: ps => s + psz ps
theorem psz_append (ps qs : List (Nat × AV)) : psz (ps ++ qs) = psz ps + psz qs := by
  induction ps with
  | nil => simp [psz]
  | cons p ps ih => obtain ⟨s, x⟩ := p; simp only [List.cons_append, psz, ih]; omega
theorem psz_prs (sz : Nat) (xs : List AV) : psz (prs sz xs) = xs.length * sz := by
  induction xs with
  | nil => simp [prs, psz]
  | cons x xs ih =>
    have : prs sz (x :: xs) = (sz, x) :: prs sz xs := rfl
    rw [this]
    simp only [psz, ih, List.length_cons, Nat.add_mul, Nat.one_mul]
    omega
theorem Css.len {ps : List (Nat × AV)} {us : List Value} (h : Css w S ρ ps us) : us.length = psz ps := by
  induction ps generalizing us with
  | nil => obtain rfl := h; rfl
  | cons p ps ih =>
    obtain ⟨s, x⟩ := p
    obtain ⟨u1, u2, rfl, h1, h2, h3⟩ := h
    rw [List.length_append, h1, ih h3]; rfl
theorem Css.split {ps qs : List (Nat × AV)} {us : List Value} (h : Css w S ρ (ps ++ qs) us) : Css w S ρ ps (us.take (psz ps)) ∧ Css w S ρ qs (us.drop (psz ps)) := by
  induction ps generalizing us with
  | nil => exact ⟨by simp [psz, Css], by simpa [psz] using h⟩
  | cons p ps ih =>
    obtain ⟨s, x⟩ := p
    obtain ⟨u1, u2, rfl, h1, h2, h3⟩ := h
    obtain ⟨k1, k2⟩ := ih h3
    subst h1
    refine ⟨⟨u1, u2.take (psz ps), ?_, rfl, h2, k1⟩, ?_⟩
    · simp only [psz]; rw [List.take_length_add_append]
    · simp only [psz]; rw [List.drop_length_add_append]; exact k2
/-- One part of many. -/
theorem Css.one {ps : List (Nat × AV)} {us : List Value} (h : Css w S ρ ps us) (i : Nat) {s : Nat} {x : AV} (hi : ps[i]? = some (s, x)) :
    Cs w S ρ x ((us.drop (psz (ps.take i))).take s) ∧ psz (ps.take i) + s ≤ us.length := by
  have hlt : i < ps.length := (List.getElem?_eq_some_iff.1 hi).1
  have hp : ps = ps.take i ++ (s, x) :: ps.drop (i + 1) := by
    have h1 := List.take_append_drop i ps
    rw [List.drop_eq_getElem_cons hlt, (List.getElem?_eq_some_iff.1 hi).2] at h1
    exact h1.symm
  have hl := h.len
  rw [hp] at h
  obtain ⟨_, h2⟩ := h.split
  have h3 := h2.len
  obtain ⟨u1, u2, e, h4, h5, h6⟩ := h2
  subst h4
  refine ⟨by rw [e, List.take_left' rfl]; exact h5, ?_⟩
  have : (us.drop (psz (ps.take i))).length = u1.length + u2.length := by rw [e, List.length_append]
  rw [List.length_drop] at this
  have h7 := congrArg psz hp
  rw [psz_append] at h7
  simp only [psz] at h7
  omega
theorem prs_length (sz : Nat) (xs : List AV) : (prs sz xs).length = xs.length := by simp [prs]
theorem prs_get (sz : Nat) (xs : List AV) (i : Nat) : (prs sz xs)[i]? = (xs[i]?).map fun x => (sz, x) := by simp [prs]
theorem prs_append (sz : Nat) (xs ys : List AV) : prs sz (xs ++ ys) = prs sz xs ++ prs sz ys := by simp [prs]
theorem prs_take (sz : Nat) (xs : List AV) (i : Nat) : prs sz (xs.take i) = (prs sz xs).take i := by simp [prs]
theorem prs_drop (sz : Nat) (xs : List AV) (i : Nat) : prs sz (xs.drop i) = (prs sz xs).drop i := by simp [prs]
/-- The elements from i to j. -/
theorem Css.cut {sz : Nat} {xs : List AV} {us : List Value} (h : Css w S ρ (prs sz xs) us) {i j : Nat} (hij : i ≤ j) (hj : j ≤ xs.length) :
    Css w S ρ (prs sz ((xs.take j).drop i)) ((us.take (j * sz)).drop (i * sz)) := by
  have h1 : xs = xs.take j ++ xs.drop j := (List.take_append_drop j xs).symm
  rw [h1, prs_append] at h
  have h2 := h.split.1
  rw [psz_prs, List.length_take, Nat.min_eq_left hj] at h2
  have h3 : xs.take j = (xs.take j).take i ++ (xs.take j).drop i := (List.take_append_drop i _).symm
  rw [h3, prs_append] at h2
  have h4 := h2.split.2
  rw [psz_prs, List.length_take, List.length_take, Nat.min_eq_left hj, Nat.min_eq_left hij] at h4
  exact h4
theorem Css.elem {sz : Nat} {xs : List AV} {us : List Value} (h : Css w S ρ (prs sz xs) us) {i : Nat} {x : AV} (hi : xs[i]? = some x) :
    Cs w S ρ x ((us.drop (i * sz)).take sz) ∧ i * sz + sz ≤ us.length := by
  have hlt : i < xs.length := (List.getElem?_eq_some_iff.1 hi).1
  have h1 := h.one i (s := sz) (x := x) (by rw [prs_get, hi]; rfl)
  rw [← prs_take, psz_prs, List.length_take, Nat.min_eq_left (by omega)] at h1
  exact h1

/-! ### Bytes -/
def ub (u : UInt8) : AV := .int .u8 (u.toNat : Int)
def Bs (l : List UInt8) : List AV := l.map ub
theorem Bs_length (l : List UInt8) : (Bs l).length = l.length := by simp [Bs]
theorem Bs_append (l m : List UInt8) : Bs (l ++ m) = Bs l ++ Bs m := by simp [Bs]
theorem Bs_take (l : List UInt8) (i : Nat) : Bs (l.take i) = (Bs l).take i := by simp [Bs]
theorem Bs_drop (l : List UInt8) (i : Nat) : Bs (l.drop i) = (Bs l).drop i := by simp [Bs]
theorem css_bytes (l : List UInt8) : Css w S ρ (prs 1 (Bs l)) (l.map U) := by
  induction l with
  | nil => rfl
  | cons u l ih => exact ⟨[U u], l.map U, rfl, rfl, .int _ _, ih⟩
theorem css_bytes_eq {l : List UInt8} {us : List Value} (h : Css w S ρ (prs 1 (Bs l)) us) : us = l.map U := by
  induction l generalizing us with
  | nil => exact h
  | cons u l ih =>
    obtain ⟨u1, u2, rfl, _, h2, h3⟩ := h
    rw [ih h3]
    cases h2
    rfl
end
end Go.Proofs.Ytbefhofmbiedgaa
