import Derived.Test.YtlkaaoekbmegkaaGreatDoorQMem
import Derived.RangeFuncFrom
import Derived.Laws.Rows
import Derived.Laws.Tables
/- One word for all the memory that a call has made: which rows and blocks there are, that they lie apart, and that nothing older has turned. Over any program; no condition. -/
namespace Go.Proofs.YtlkaaoekbmegkaaGreatDoor
set_option linter.all false
open Go.RowKit

theorem bytes_cat (a b : List UInt8) : (⟨a.toArray⟩ : ByteArray) ++ (⟨b.toArray⟩ : ByteArray) = ⟨(a ++ b).toArray⟩ := by
  apply ByteArray.ext; simp

/-- A piece of memory of the call's own: a row of bytes; a row of any cells; a block known whole; nothing any more. -/
inductive It where
  | row (e : TypeId) (A : Option Addr) (c : Nat) (l : List UInt8)
  | rowR (e : TypeId) (size : Nat) (A : Option Addr) (n c : Nat) (xs : List Value)
  | blk (g : Nat) (t : TypeId) (cs : Array Value)
  | obj (g : Nat) (o : Obj)
  | gone

def It.block : It → Option Nat
  | .row _ A _ _ => ablk A
  | .rowR _ _ A _ _ _ => ablk A
  | .blk g _ _ => some g
  | .obj g _ => some g
  | .gone => none

def It.ok (B : Nat) (w : World) : It → Prop
  | .row e A c l => Own w B e A c l
  | .rowR e s A n c xs => OwnR w B e s A n c xs
  | .blk g t cs => B ≤ g ∧ Blk w g t cs
  | .obj g o => B ≤ g ∧ w.heap[g]? = some o
  | .gone => True

theorem It.ok.lt {B : Nat} {w : World} : ∀ {x : It}, x.ok B w → ∀ k, x.block = some k → B ≤ k ∧ k < w.heap.size
  | .row _ _ _ _, h, k, hk => Own.lt h k hk
  | .rowR _ _ _ _ _ _, h, k, hk => OwnR.lt h k hk
  | .blk _ _ _, h, k, hk => by cases hk; exact ⟨h.1, h.2.lt⟩
  | .obj _ _, h, k, hk => by cases hk; exact ⟨h.1, (Array.getElem?_eq_some_iff.1 h.2).1⟩
  | .gone, _, _, hk => by cases hk
theorem It.ok.keep {B : Nat} {w w' : World} : ∀ {x : It}, x.ok B w → (∀ k, x.block = some k → k < w.heap.size → w'.heap[k]? = w.heap[k]?) → x.ok B w'
  | .row _ _ _ _, h, hk => Own.keep h hk
  | .rowR _ _ _ _ _ _, h, hk => OwnR.keep h hk
  | .blk g _ _, h, hk => ⟨h.1, (hk g rfl h.2.lt).trans h.2⟩
  | .obj g _, h, hk => ⟨h.1, (hk g rfl (Array.getElem?_eq_some_iff.1 h.2).1).trans h.2⟩
  | .gone, _, _ => trivial
theorem OwnR.mono {w : World} {base base' : Nat} {e : TypeId} {size : Nat} {A : Option Addr} {n c : Nat} {xs : List Value} (h : OwnR w base e size A n c xs) (hb : base' ≤ base) : OwnR w base' e size A n c xs := by
  refine ⟨h.1, ?_⟩
  rcases h.2 with h2 | ⟨g, cap, cur, hv, hb2, r⟩
  · exact .inl h2
  · exact .inr ⟨g, cap, cur, hv, Nat.le_trans hb hb2, r⟩
theorem It.ok.mono {B B' : Nat} {w : World} (hb : B' ≤ B) : ∀ {x : It}, x.ok B w → x.ok B' w
  | .row _ _ _ _, h => Own.mono h hb
  | .rowR _ _ _ _ _ _, h => OwnR.mono h hb
  | .blk _ _ _, h => ⟨Nat.le_trans hb h.1, h.2⟩
  | .obj _ _, h => ⟨Nat.le_trans hb h.1, h.2⟩
  | .gone, _ => trivial

structure Sep (B : Nat) (w0 w : World) (L : List It) : Prop where
  below : Below B w0 w
  size : B ≤ w.heap.size
  ok : ∀ (i : Nat) (x : It), L[i]? = some x → x.ok B w
  apart : ∀ (i j : Nat) (x y : It), i ≠ j → L[i]? = some x → L[j]? = some y → ∀ k, x.block = some k → y.block ≠ some k

section
variable {B : Nat} {w0 w w' : World} {L : List It}

theorem Sep.start (w : World) : Sep w.heap.size w w [] :=
  ⟨Below.refl _ _, Nat.le_refl _, fun i x h => by simp at h, fun i j x y _ h => by simp at h⟩
theorem Sep.startB (w : World) (h : B ≤ w.heap.size) : Sep B w w [] :=
  ⟨Below.refl _ _, h, fun i x h => by simp at h, fun i j x y _ h => by simp at h⟩
theorem Sep.of (h : Below B w0 w) (hs : B ≤ w.heap.size) : Sep B w0 w [] :=
  ⟨h, hs, fun i x h => by simp at h, fun i j x y _ h => by simp at h⟩

theorem Sep.ext (h : Sep B w0 w L) (hb : Below w.heap.size w w') : Sep B w0 w' L :=
  ⟨h.below.trans (hb.mono h.size), Nat.le_trans h.size hb.size, fun i x hx => (h.ok i x hx).keep fun k _ hk => hb.block k hk, h.apart⟩
theorem Sep.drew (h : Sep B w0 w L) : Sep B w0 w.drew L := h.ext (Below.refl _ _).drew
theorem Sep.drewN (h : Sep B w0 w L) (n : Nat) : Sep B w0 (w.drewN n) L := h.ext (belowN (Below.refl _ _) n)
theorem Sep.alloc (h : Sep B w0 w L) (o : Obj) : Sep B w0 (w.alloc o) L := h.ext ((Below.refl _ _).alloc (Nat.le_refl _) o)

theorem Sep.push (h : Sep B w0 w L) {x : It} (hx : x.ok B w) (hf : ∀ k, x.block = some k → ∀ (i : Nat) (y : It), L[i]? = some y → y.block ≠ some k) : Sep B w0 w (L ++ [x]) := by
  have split : ∀ (i : Nat) (y : It), (L ++ [x])[i]? = some y → L[i]? = some y ∨ (i = L.length ∧ y = x) := by
    intro i y hy
    rcases Nat.lt_or_ge i L.length with hl | hl
    · rw [List.getElem?_append_left hl] at hy; exact .inl hy
    · rw [List.getElem?_append_right hl] at hy
      rcases Nat.eq_zero_or_pos (i - L.length) with h0 | h0
      · rw [h0] at hy; simp at hy; exact .inr ⟨by omega, hy.symm⟩
      · rw [List.getElem?_eq_none (by simp; omega)] at hy; cases hy
  refine ⟨h.below, h.size, fun i y hy => ?_, fun i j y z hij hy hz k hk => ?_⟩
  · rcases split i y hy with h1 | ⟨_, rfl⟩
    · exact h.ok i y h1
    · exact hx
  · rcases split i y hy with h1 | ⟨e1, rfl⟩ <;> rcases split j z hz with h2 | ⟨e2, rfl⟩
    · exact h.apart i j y z hij h1 h2 k hk
    · exact fun hk2 => hf k hk2 i y h1 hk
    · exact hf k hk j z h2
    · omega
/-- Behind a call that left all old memory as it was: one more piece, that is new. -/
theorem Sep.call (h : Sep B w0 w L) (hb : Below w.heap.size w w') {x : It} (hx : x.ok w.heap.size w') : Sep B w0 w' (L ++ [x]) :=
  (h.ext hb).push (hx.mono h.size) fun k hk i y hy hk2 => by
    have h1 := (hx.lt k hk).1
    have h2 := ((h.ok i y hy).lt k hk2).2
    omega
theorem Sep.allocC (h : Sep B w0 w L) (cs : Array Value) (t : TypeId) : Sep B w0 (w.alloc (.cells cs t)) (L ++ [.blk w.heap.size t cs]) :=
  h.call ((Below.refl _ _).alloc (Nat.le_refl _) _) (x := .blk w.heap.size t cs) ⟨Nat.le_refl _, Blk.new w t cs⟩
/-- A new block as a row. -/
theorem Sep.allocR (h : Sep B w0 w L) (cs : Array Value) (t : TypeId) (size n : Nat) (hn : cs.size = n * size) (hm : n ≤ maxLen) : Sep B w0 (w.alloc (.cells cs t)) (L ++ [.rowR t size (some ⟨w.heap.size, 0, none⟩) n n cs.toList]) :=
  h.call ((Below.refl _ _).alloc (Nat.le_refl _) _) (x := .rowR t size (some ⟨w.heap.size, 0, none⟩) n n cs.toList) (OwnR.new w t cs n (Nat.le_refl _) hn hm)
theorem Sep.allocB (h : Sep B w0 w L) (t : TypeId) : Sep B w0 (w.alloc (.cells #[] t)) (L ++ [.row t (some ⟨w.heap.size, 0, none⟩) 0 []]) :=
  h.call ((Below.refl _ _).alloc (Nat.le_refl _) _) (x := .row t (some ⟨w.heap.size, 0, none⟩) 0 []) (Own.new0 w t (Nat.le_refl _))
/-- A row that is nil. -/
theorem Sep.nilB (h : Sep B w0 w L) (t : TypeId) : Sep B w0 w (L ++ [.row t none 0 []]) := h.push (x := .row t none 0 []) (Own.nil w B t) fun k hk => by cases hk
theorem Sep.nilR (h : Sep B w0 w L) (t : TypeId) (size : Nat) : Sep B w0 w (L ++ [.rowR t size none 0 0 []]) := h.push (x := .rowR t size none 0 0 []) (OwnR.nil w B t size) fun k hk => by cases hk

/-- Piece i has become y: nothing else has turned. -/
theorem Sep.turn (h : Sep B w0 w L) {i : Nat} {x y : It} (hi : L[i]? = some x) {row : Option Nat} (hg : w.grownBy w' row) (hrow : ∀ k, row = some k → x.block = some k) (hy : y.ok B w') (hd : ∀ k, y.block = some k → x.block = some k ∨ w.heap.size ≤ k) :
    Sep B w0 w' (L.set i y) := by
  have hil : i < L.length := by
    rcases Nat.lt_or_ge i L.length with h1 | h1
    · exact h1
    · rw [List.getElem?_eq_none h1] at hi; cases hi
  have split : ∀ (j : Nat) (z : It), (L.set i y)[j]? = some z → (j = i ∧ z = y) ∨ (j ≠ i ∧ L[j]? = some z) := by
    intro j z hz
    by_cases e : j = i
    · subst e; rw [List.getElem?_set_self hil] at hz; exact .inl ⟨rfl, by simpa using hz.symm⟩
    · rw [List.getElem?_set_ne (Ne.symm e)] at hz; exact .inr ⟨e, hz⟩
  have hxo := h.ok i x hi
  refine ⟨h.below.grown hg h.size (fun k hk => (hxo.lt k (hrow k hk)).1), Nat.le_trans h.size hg.size, fun j z hz => ?_, fun j j' z z' hjj hz hz' k hk => ?_⟩
  · rcases split j z hz with ⟨_, rfl⟩ | ⟨e, h1⟩
    · exact hy
    · exact (h.ok j z h1).keep fun k hk hlt => hg.block k hlt fun e2 => h.apart j i z x e h1 hi k hk (hrow k e2.symm)
  · rcases split j z hz with ⟨e1, rfl⟩ | ⟨e1, h1⟩ <;> rcases split j' z' hz' with ⟨e2, rfl⟩ | ⟨e2, h2⟩
    · omega
    · intro hk2
      rcases hd k hk with h3 | h3
      · exact h.apart i j' x z' (Ne.symm e2) hi h2 k h3 hk2
      · have := ((h.ok j' z' h2).lt k hk2).2; omega
    · intro hk2
      rcases hd k hk2 with h3 | h3
      · exact h.apart j i z x e1 h1 hi k hk h3
      · have := ((h.ok j z h1).lt k hk).2; omega
    · exact h.apart j j' z z' hjj h1 h2 k hk
theorem Sep.turned (h : Sep B w0 w L) {i : Nat} {x y : It} (hi : L[i]? = some x) (hg : w.grownBy w' x.block) (hy : y.ok B w') (hd : y.block = x.block ∨ y.block = some w.heap.size) : Sep B w0 w' (L.set i y) :=
  h.turn hi hg (fun _ hk => hk) hy fun k hk => by
    rcases hd with e | e
    · exact .inl (by rw [← e]; exact hk)
    · rw [hk] at e; injection e with e; exact .inr (by omega)
theorem Sep.store (h : Sep B w0 w L) (i : Nat) {g j : Nat} {t : TypeId} {cs : Array Value} (hi : L[i]? = some (.blk g t cs)) (v : Value) : Sep B w0 (w.setCell ⟨g, j, none⟩ v) (L.set i (.blk g t (cs.setIfInBounds j v))) :=
  h.turned hi (only_set (World.grownBy.refl w _) (.inl rfl) v) (y := .blk g t (cs.setIfInBounds j v)) ⟨(h.ok i _ hi).1, (h.ok i _ hi).2.set_ j v⟩ (.inl rfl)
theorem Sep.drop (h : Sep B w0 w L) (i : Nat) : Sep B w0 w (L.set i .gone) := by
  rcases Nat.lt_or_ge i L.length with hl | hl
  · exact h.turn (List.getElem?_eq_getElem hl) (World.grownBy.refl w none) (fun _ hk => by cases hk) (y := .gone) trivial (fun k hk => by cases hk)
  · rw [List.set_eq_of_length_le hl]; exact h
/-- Some pieces, by their numbers. -/
theorem Sep.pick (h : Sep B w0 w L) (is : List Nat) (hn : is.Nodup) : Sep B w0 w (is.map fun i => L.getD i .gone) := by
  have get : ∀ (j : Nat) (x : It), (is.map fun i => L.getD i .gone)[j]? = some x → ∃ i, is[j]? = some i ∧ x = L.getD i .gone := by
    intro j x hx
    rw [List.getElem?_map] at hx
    cases hi : is[j]? with
    | none => rw [hi] at hx; cases hx
    | some i => rw [hi] at hx; exact ⟨i, rfl, by simpa using hx.symm⟩
  have look : ∀ i : Nat, L[i]? = some (L.getD i .gone) ∨ L.getD i .gone = .gone := by
    intro i
    rw [List.getD_eq_getElem?_getD]
    cases L[i]? with
    | none => exact .inr rfl
    | some x => exact .inl rfl
  refine ⟨h.below, h.size, fun j x hx => ?_, fun j j' x y hjj hx hy k hk hk2 => ?_⟩
  · obtain ⟨i, _, rfl⟩ := get j x hx
    rcases look i with h1 | h1
    · exact h.ok i _ h1
    · rw [h1]; trivial
  · obtain ⟨i, hi, rfl⟩ := get j x hx
    obtain ⟨i', hi', rfl⟩ := get j' y hy
    rcases look i with h1 | h1
    · rcases look i' with h2 | h2
      · refine h.apart i i' _ _ ?_ h1 h2 k hk hk2
        rintro rfl
        have hlt : j < is.length := (List.getElem?_eq_some_iff.1 hi).1
        exact hjj ((List.getElem?_inj hlt hn).1 (hi.trans hi'.symm))
      · rw [h2] at hk2; cases hk2
    · rw [h1] at hk; cases hk

theorem Sep.putObj (h : Sep B w0 w L) (i : Nat) {g : Nat} {o : Obj} (hi : L[i]? = some (.obj g o)) (o' : Obj) : Sep B w0 (w.putObj g o') (L.set i (.obj g o')) :=
  h.turned hi (grownBy_putObj' w g o') (y := .obj g o') ⟨(h.ok i _ hi).1, World.putObj_heap_same (Array.getElem?_eq_some_iff.1 (h.ok i _ hi).2).1⟩ (.inl rfl)
theorem Sep.obj (h : Sep B w0 w L) (i : Nat) {g : Nat} {o : Obj} (hi : L[i]? = some (.obj g o)) : w.heap[g]? = some o := (h.ok i _ hi).2
/-- A block of another kind. -/
theorem Sep.pushObj (h : Sep B w0 w L) {g : Nat} {o : Obj} (hB : B ≤ g) (ho : w.heap[g]? = some o) (hf : ∀ (i : Nat) (y : It), L[i]? = some y → y.block ≠ some g) : Sep B w0 w (L ++ [.obj g o]) :=
  h.push (x := .obj g o) ⟨hB, ho⟩ (fun k hk => by cases hk; exact hf)

/-- Made of cells. -/
def It.cells : It → Bool
  | .obj _ _ => false
  | _ => true
theorem It.ok.isCells {B : Nat} {w : World} : ∀ {x : It}, x.ok B w → x.cells = true → ∀ r (o : Obj), x.block = some r → w.heap[r]? = some o → o.isCells = true
  | .row e A c l, h, _, r, o, hr, ho => by
    obtain ⟨cur, hb⟩ := Own.blk h r hr
    rw [show w.heap[r]? = _ from hb] at ho; cases ho; rfl
  | .rowR e s A n c xs, h, _, r, o, hr, ho => by
    obtain ⟨cur, hb⟩ := OwnR.blk h r hr
    rw [show w.heap[r]? = _ from hb] at ho; cases ho; rfl
  | .blk g t cs, h, _, r, o, hr, ho => by
    cases hr
    rw [show w.heap[g]? = _ from h.2] at ho; cases ho; rfl
  | .gone, _, _, _, _, hr, _ => by cases hr
/-- Blocks of other kinds have turned alone. -/
theorem Sep.others (h : Sep B w0 w L) (hL : L.all It.cells = true) {row : Option Nat} (hg : w.grownBy w' row) (hr : ∀ r, row = some r → B ≤ r ∧ ∃ o : Obj, w.heap[r]? = some o ∧ o.isCells = false) : Sep B w0 w' L := by
  have hc : ∀ (i : Nat) (x : It), L[i]? = some x → x.cells = true := fun i x hx => List.all_eq_true.1 hL x (List.mem_of_getElem? hx)
  refine ⟨h.below.grown hg h.size (fun k hk => (hr k hk).1), Nat.le_trans h.size hg.size, fun i x hx => (h.ok i x hx).keep fun k hk hlt => hg.block k hlt fun e => ?_, h.apart⟩
  obtain ⟨_, o, ho, hn⟩ := hr k e.symm
  have := (h.ok i x hx).isCells (hc i x hx) k o hk ho
  rw [this] at hn; cases hn
theorem Sep.cast {L' : List It} (h : Sep B w0 w L) (e : L = L') : Sep B w0 w L' := e ▸ h
theorem Sep.still (h : Sep B w0 w L) (hg : w.grownBy w' none) : Sep B w0 w' L :=
  ⟨h.below.grown hg h.size (fun k hk => by cases hk), Nat.le_trans h.size hg.size, fun i x hx => (h.ok i x hx).keep fun k hk hlt => hg.block k hlt (by simp), h.apart⟩

/-! ### What the pieces tell -/
theorem Sep.own (h : Sep B w0 w L) (i : Nat) {e : TypeId} {A : Option Addr} {c : Nat} {l : List UInt8} (hi : L[i]? = some (.row e A c l)) : Own w B e A c l := h.ok i _ hi
theorem Sep.rd (h : Sep B w0 w L) (i : Nat) {e : TypeId} {A : Option Addr} {c : Nat} {l : List UInt8} (hi : L[i]? = some (.row e A c l)) : Rd w A l := (h.own i hi).rd
theorem Sep.ownR (h : Sep B w0 w L) (i : Nat) {e : TypeId} {size : Nat} {A : Option Addr} {n c : Nat} {xs : List Value} (hi : L[i]? = some (.rowR e size A n c xs)) : OwnR w B e size A n c xs := h.ok i _ hi
theorem Sep.rdR (h : Sep B w0 w L) (i : Nat) {e : TypeId} {size : Nat} {A : Option Addr} {n c : Nat} {xs : List Value} (hi : L[i]? = some (.rowR e size A n c xs)) : RdR w A xs := (h.ownR i hi).rd
theorem Sep.blk (h : Sep B w0 w L) (i : Nat) {g : Nat} {t : TypeId} {cs : Array Value} (hi : L[i]? = some (.blk g t cs)) : Blk w g t cs := (h.ok i _ hi).2
theorem Sep.cell (h : Sep B w0 w L) (i j : Nat) {g : Nat} {t : TypeId} {cs : Array Value} (hi : L[i]? = some (.blk g t cs)) {v : Value} (hv : cs[j]? = some v) : w.cell? ⟨g, j, none⟩ = some v := ((h.blk i hi).cell j).trans hv
theorem Sep.frozen (h : Sep B w0 w L) (i j : Nat) {g : Nat} {t : TypeId} {cs : Array Value} (hi : L[i]? = some (.blk g t cs)) : w.frozen? ⟨g, j, none⟩ = false := (h.blk i hi).frozen j
theorem Sep.lt (h : Sep B w0 w L) (i : Nat) {g : Nat} {t : TypeId} {cs : Array Value} (hi : L[i]? = some (.blk g t cs)) : g < w.heap.size := (h.blk i hi).lt
theorem Sep.ge (h : Sep B w0 w L) (i : Nat) {g : Nat} {t : TypeId} {cs : Array Value} (hi : L[i]? = some (.blk g t cs)) : B ≤ g := (h.ok i _ hi).1
end

/-- The ways through a piece of code meet again, up to the numbers of two new blocks. -/
def Met2 (A : Nat → Nat → Act) (S : Nat → Nat → World → Prop) (e : Exit) (a' : Act) (w' : World) : Prop := ∃ g1 g2, e = .normal ∧ a' = A g1 g2 ∧ S g1 g2 w'
theorem wp_meet2 {P : Program} {c : Code} {Q : Exit → Act → World → Prop} {a : Act} {w : World} {A : Nat → Nat → Act} {S : Nat → Nat → World → Prop} (h : c.wp P (Met2 A S) a w)
    (hk : ∀ g1 g2 w', S g1 g2 w' → Q .normal (A g1 g2) w') : c.wp P Q a w :=
  wp_mono h fun _ _ _ ⟨g1, g2, h1, h2, h3⟩ => by subst h1 h2; exact hk g1 g2 _ h3
/-- An operation that runs, guarded or not. -/
theorem wpList_want {P : Program} {ops : Array Oper} {Q : Exit → Act → World → Prop} {a : Act} {w : World} {rest : List Oper} {o : Oper} (hw : Region.wanted o (yielded ops a.tmps) = true)
    (h : ∀ K : Act → World → Prop, (∀ a w, wpList P ops Q rest a w → K a w) → o.wp P a w K Q) : wpList P ops Q (o :: rest) a w :=
  wpList_step fun K hK => by simp only [hw, if_true]; exact h K hK

/-! ### append, with the pieces told anew -/
section
variable {P : Program} {B : Nat} {w0 w : World} {L : List It}
theorem wpList_appS (hS : Sep B w0 w L) (i : Nat) {ops : Array Oper} {rest : List Oper} {o : Oper} {a : Act} {Q : Exit → Act → World → Prop} {t e : TypeId} (hB : Byt P t e) {s x : Operand} (hgd : o.guard = none)
    (ho : o.op = .call { callee := .builtin .append, args := #[s, x], argTypes := #[t, t] })
    {A : Option Addr} {n c : Nat} {l : List UInt8} (hi : L[i]? = some (.row e A c l)) {A2 : Option Addr} {n2 c2 : Nat} {l2 : List UInt8} (hr : Rd w A2 l2) (hs : a.eval s = .slice A n c) (hx : a.eval x = .slice A2 n2 c2)
    (hn : n = l.length) (hn2 : n2 = l2.length) (hb : l.length + l2.length ≤ 140737488355328)
    (h : ∀ A' c' w', Sep B w0 w' (L.set i (.row e A' c' (l ++ l2))) → wpList P ops Q rest (a.put o.dst (.slice A' (l ++ l2).length c')) w') :
    wpList P ops Q (o :: rest) a w :=
  wpList_app w hgd s x hB ho hs hx (hS.own i hi) hr hn hn2 hb hS.size fun A' c' w' h1 h2 h3 => h A' c' w' (hS.turned hi h2 h1 h3)
theorem wpList_appSG (hS : Sep B w0 w L) (i : Nat) {ops : Array Oper} {rest : List Oper} {o : Oper} {a : Act} {Q : Exit → Act → World → Prop} {t e : TypeId} (hB : Byt P t e) {s x : Operand} (hw : Region.wanted o (yielded ops a.tmps) = true)
    (ho : o.op = .call { callee := .builtin .append, args := #[s, x], argTypes := #[t, t] })
    {A : Option Addr} {n c : Nat} {l : List UInt8} (hi : L[i]? = some (.row e A c l)) {A2 : Option Addr} {n2 c2 : Nat} {l2 : List UInt8} (hr : Rd w A2 l2) (hs : a.eval s = .slice A n c) (hx : a.eval x = .slice A2 n2 c2)
    (hn : n = l.length) (hn2 : n2 = l2.length) (hb : l.length + l2.length ≤ 140737488355328)
    (h : ∀ A' c' w', Sep B w0 w' (L.set i (.row e A' c' (l ++ l2))) → wpList P ops Q rest (a.put o.dst (.slice A' (l ++ l2).length c')) w') :
    wpList P ops Q (o :: rest) a w :=
  wpList_want hw fun _ hK => wp_app w s x hB ho hs hx (hS.own i hi) hr hn hn2 hb hS.size fun A' c' w' h1 h2 h3 => hK _ _ (h A' c' w' (hS.turned hi h2 h1 h3))
theorem wpList_appRS (hS : Sep B w0 w L) (i : Nat) {ops : Array Oper} {rest : List Oper} {o : Oper} {a : Act} {Q : Exit → Act → World → Prop} {t e : TypeId} {z : Value} {size bytes : Nat} (hT : RowT P t e z size bytes) {s x : Operand} (hgd : o.guard = none)
    (ho : o.op = .call { callee := .builtin .append, args := #[s, x], argTypes := #[t, t] })
    {A : Option Addr} {n c : Nat} {xs : List Value} (hi : L[i]? = some (.rowR e size A n c xs)) {A2 : Option Addr} {m c2 : Nat} {ys : List Value} (hr : RdR w A2 ys) (hs : a.eval s = .slice A n c) (hx : a.eval x = .slice A2 m c2)
    (hm : ys.length = m * size) (hm0 : 0 < m) (h1 : ∀ u ∈ ys, u.oneCell' = true) (h63 : n + m ≤ 140737488355328) (hb : (n + m) * bytes ≤ 140737488355328)
    (h : ∀ A' c' w', Sep B w0 w' (L.set i (.rowR e size A' (n + m) c' (xs ++ ys))) → wpList P ops Q rest (a.put o.dst (.slice A' (n + m) c')) w') :
    wpList P ops Q (o :: rest) a w :=
  wpList_appR w hgd s x hT ho hs hx (hS.ownR i hi) hr hm hm0 h1 h63 hb hS.size fun A' c' w' h1 h2 h3 => h A' c' w' (hS.turned hi h2 h1 h3)
end

section
variable {P : Program} {B : Nat} {w0 w : World} {L : List It}
/-- A whole row stored into a block that is known whole. -/
theorem wp_store_rowS (hS : Sep B w0 w L) (i : Nat) {g : Nat} {t : TypeId} {cs cs' : Array Value} (hi : L[i]? = some (.blk g t cs)) {o : Oper} {a : Act} {K : Act → World → Prop} {Q : Exit → Act → World → Prop} (ty : TypeId) (x y : Operand) (ho : o.op = .store ty x y)
    (hx : a.eval x = .pointer (some ⟨g, 0, none⟩)) (hy : a.eval y = .agg cs') (hsz : (P.info? ty).map (·.size) = some cs'.size) (hc : cs.size = cs'.size) (h1 : cs'.all (·.oneCell') = true)
    (h : ∀ w', Sep B w0 w' (L.set i (.blk g t cs')) → K (a.put o.dst undef) w') : o.wp P a w K Q := by
  have hb := hS.blk i hi
  unfold Oper.wp execOp
  simp only [ho, hx, hy, Instr.storeAt, Instr.sureAddr, Sem.run_bind, Sem.run_pure, Result.andThen_ok, run_storeVar_row w g t ty cs cs' hb hsz hc h1]
  refine h _ (hS.turned hi (y := .blk g t cs') ⟨rfl, rfl, rfl, by simp, fun k hk hne => setRow_other w g k cs' fun e => hne (by rw [e]; rfl)⟩ ⟨(hS.ok i _ hi).1, setRow_heap w g cs cs' t (0, 0) hb⟩ (.inl rfl))
theorem wpList_store_rowS (hS : Sep B w0 w L) (i : Nat) {g : Nat} {t : TypeId} {cs cs' : Array Value} (hi : L[i]? = some (.blk g t cs)) {ops : Array Oper} {rest : List Oper} {o : Oper} {a : Act} {Q : Exit → Act → World → Prop} (hgd : o.guard = none) (ty : TypeId) (x y : Operand) (ho : o.op = .store ty x y)
    (hx : a.eval x = .pointer (some ⟨g, 0, none⟩)) (hy : a.eval y = .agg cs') (hsz : (P.info? ty).map (·.size) = some cs'.size) (hc : cs.size = cs'.size) (h1 : cs'.all (·.oneCell') = true)
    (h : ∀ w', Sep B w0 w' (L.set i (.blk g t cs')) → wpList P ops Q rest (a.put o.dst undef) w') : wpList P ops Q (o :: rest) a w :=
  wpList_plain hgd fun _ hK => wp_store_rowS hS i hi ty x y ho hx hy hsz hc h1 fun w' hw => hK _ _ (h w' hw)
/-- The walk stands still at a store, at a load. -/
theorem wpList_stopStore {ops : Array Oper} {Q : Exit → Act → World → Prop} {a : Act} {rest : List Oper} {o : Oper} {ty : TypeId} {x y : Operand} (_ho : o.op = .store ty x y) (h : Stop (wpList P ops Q (o :: rest) a w)) : wpList P ops Q (o :: rest) a w := h
theorem wpList_stopLoad {ops : Array Oper} {Q : Exit → Act → World → Prop} {a : Act} {rest : List Oper} {o : Oper} {ty : TypeId} {x : Operand} (_ho : o.op = .load ty x) (h : Stop (wpList P ops Q (o :: rest) a w)) : wpList P ops Q (o :: rest) a w := h
end
end Go.Proofs.YtlkaaoekbmegkaaGreatDoor
/- As 'Sep', where some old blocks (F) may be written too. Over any program; no condition. -/
namespace Go.Proofs.YtlkaaoekbmegkaaGreatDoor
set_option linter.all false
open Go.RowKit

/-- Only blocks of F, and what is new, have turned. -/
structure Kept (F : Nat → Prop) (w w' : World) : Prop where
  os : w'.os = w.os
  tape : w'.tape = w.tape
  output : w'.output = w.output
  size : w.heap.size ≤ w'.heap.size
  block : ∀ i, i < w.heap.size → ¬ F i → w'.heap[i]? = w.heap[i]?
theorem Kept.refl (F : Nat → Prop) (w : World) : Kept F w w := ⟨rfl, rfl, rfl, Nat.le_refl _, fun _ _ _ => rfl⟩
theorem Kept.trans {F : Nat → Prop} {a b c : World} (h1 : Kept F a b) (h2 : Kept F b c) : Kept F a c :=
  ⟨h2.os.trans h1.os, h2.tape.trans h1.tape, h2.output.trans h1.output, Nat.le_trans h1.size h2.size, fun i hi hn => (h2.block i (Nat.lt_of_lt_of_le hi h1.size) hn).trans (h1.block i hi hn)⟩
theorem Kept.of_below {F : Nat → Prop} {a b : World} (h : Below a.heap.size a b) : Kept F a b := ⟨h.os, h.tape, h.output, h.size, fun i hi _ => h.block i hi⟩
theorem Kept.of_grown {F : Nat → Prop} {w0 a b : World} {row : Option Nat} (h0 : Kept F w0 a) (h : a.grownBy b row) (hr : ∀ k, row = some k → F k ∨ w0.heap.size ≤ k) : Kept F w0 b :=
  ⟨h.os.trans h0.os, h.tape.trans h0.tape, h.output.trans h0.output, Nat.le_trans h0.size h.size, fun i hi hn =>
    (h.block i (Nat.lt_of_lt_of_le hi h0.size) (fun e => by rcases hr i e.symm with h1 | h1; exact hn h1; omega)).trans (h0.block i hi hn)⟩
theorem Kept.grown {w w' : World} {g : Nat} (h : Kept (fun k => k = g) w w') : w.grownBy w' (some g) := ⟨h.os, h.tape, h.output, h.size, fun i hi hn => h.block i hi (fun e => hn (by rw [e]))⟩
theorem Kept.below {w w' : World} (h : Kept (fun _ => False) w w') : Below w.heap.size w w' := ⟨h.os, h.tape, h.output, h.size, fun i hi => h.block i hi id⟩

structure SepF (F : Nat → Prop) (w0 w : World) (L : List It) : Prop where
  kept : Kept F w0 w
  ok : ∀ (i : Nat) (x : It), L[i]? = some x → x.ok 0 w
  mine : ∀ (i : Nat) (x : It), L[i]? = some x → ∀ k, x.block = some k → F k ∨ w0.heap.size ≤ k
  apart : ∀ (i j : Nat) (x y : It), i ≠ j → L[i]? = some x → L[j]? = some y → ∀ k, x.block = some k → y.block ≠ some k

section
variable {F : Nat → Prop} {w0 w w' : World} {L : List It}

theorem SepF.start (F : Nat → Prop) (w : World) : SepF F w w [] :=
  ⟨Kept.refl _ _, fun i x h => by simp at h, fun i x h => by simp at h, fun i j x y _ h => by simp at h⟩
theorem SepF.size (h : SepF F w0 w L) : w0.heap.size ≤ w.heap.size := h.kept.size
theorem SepF.ext (h : SepF F w0 w L) (hb : Below w.heap.size w w') : SepF F w0 w' L :=
  ⟨h.kept.trans (Kept.of_below hb), fun i x hx => (h.ok i x hx).keep fun k _ hk => hb.block k hk, h.mine, h.apart⟩
theorem SepF.drew (h : SepF F w0 w L) : SepF F w0 w.drew L := h.ext (Below.refl _ _).drew
theorem SepF.drewN (h : SepF F w0 w L) (n : Nat) : SepF F w0 (w.drewN n) L := h.ext (belowN (Below.refl _ _) n)
theorem SepF.alloc (h : SepF F w0 w L) (o : Obj) : SepF F w0 (w.alloc o) L := h.ext ((Below.refl _ _).alloc (Nat.le_refl _) o)
theorem SepF.push (h : SepF F w0 w L) {x : It} (hx : x.ok 0 w) (hm : ∀ k, x.block = some k → F k ∨ w0.heap.size ≤ k) (hf : ∀ k, x.block = some k → ∀ (i : Nat) (y : It), L[i]? = some y → y.block ≠ some k) : SepF F w0 w (L ++ [x]) := by
  have split : ∀ (i : Nat) (y : It), (L ++ [x])[i]? = some y → L[i]? = some y ∨ (i = L.length ∧ y = x) := by
    intro i y hy
    rcases Nat.lt_or_ge i L.length with hl | hl
    · rw [List.getElem?_append_left hl] at hy; exact .inl hy
    · rw [List.getElem?_append_right hl] at hy
      rcases Nat.eq_zero_or_pos (i - L.length) with h0 | h0
      · rw [h0] at hy; simp at hy; exact .inr ⟨by omega, hy.symm⟩
      · rw [List.getElem?_eq_none (by simp; omega)] at hy; cases hy
  refine ⟨h.kept, fun i y hy => ?_, fun i y hy => ?_, fun i j y z hij hy hz k hk => ?_⟩
  · rcases split i y hy with h1 | ⟨_, rfl⟩
    · exact h.ok i y h1
    · exact hx
  · rcases split i y hy with h1 | ⟨_, rfl⟩
    · exact h.mine i y h1
    · exact hm
  · rcases split i y hy with h1 | ⟨e1, rfl⟩ <;> rcases split j z hz with h2 | ⟨e2, rfl⟩
    · exact h.apart i j y z hij h1 h2 k hk
    · exact fun hk2 => hf k hk2 i y h1 hk
    · exact hf k hk j z h2
    · omega
/-- An old block that may be written. -/
theorem SepF.old (h : SepF F w0 w L) {g : Nat} {t : TypeId} {cs : Array Value} (hb : Blk w g t cs) (hF : F g) (hf : ∀ (i : Nat) (y : It), L[i]? = some y → y.block ≠ some g) : SepF F w0 w (L ++ [.blk g t cs]) :=
  h.push (x := .blk g t cs) ⟨Nat.zero_le _, hb⟩ (fun k hk => by cases hk; exact .inl hF) (fun k hk => by cases hk; exact hf)
theorem SepF.call (h : SepF F w0 w L) (hb : Below w.heap.size w w') {x : It} (hx : x.ok w.heap.size w') : SepF F w0 w' (L ++ [x]) :=
  (h.ext hb).push (hx.mono (Nat.zero_le _)) (fun k hk => .inr (Nat.le_trans h.size (hx.lt k hk).1)) fun k hk i y hy hk2 => by
    have h1 := (hx.lt k hk).1
    have h2 := ((h.ok i y hy).lt k hk2).2
    omega
theorem SepF.allocC (h : SepF F w0 w L) (cs : Array Value) (t : TypeId) : SepF F w0 (w.alloc (.cells cs t)) (L ++ [.blk w.heap.size t cs]) :=
  h.call ((Below.refl _ _).alloc (Nat.le_refl _) _) (x := .blk w.heap.size t cs) ⟨Nat.le_refl _, Blk.new w t cs⟩
theorem SepF.allocR (h : SepF F w0 w L) (cs : Array Value) (t : TypeId) (size n : Nat) (hn : cs.size = n * size) (hm : n ≤ maxLen) : SepF F w0 (w.alloc (.cells cs t)) (L ++ [.rowR t size (some ⟨w.heap.size, 0, none⟩) n n cs.toList]) :=
  h.call ((Below.refl _ _).alloc (Nat.le_refl _) _) (x := .rowR t size (some ⟨w.heap.size, 0, none⟩) n n cs.toList) (OwnR.new w t cs n (Nat.le_refl _) hn hm)
theorem SepF.allocB (h : SepF F w0 w L) (t : TypeId) : SepF F w0 (w.alloc (.cells #[] t)) (L ++ [.row t (some ⟨w.heap.size, 0, none⟩) 0 []]) :=
  h.call ((Below.refl _ _).alloc (Nat.le_refl _) _) (x := .row t (some ⟨w.heap.size, 0, none⟩) 0 []) (Own.new0 w t (Nat.le_refl _))
theorem SepF.nilB (h : SepF F w0 w L) (t : TypeId) : SepF F w0 w (L ++ [.row t none 0 []]) := h.push (x := .row t none 0 []) (Own.nil w 0 t) (fun k hk => by cases hk) fun k hk => by cases hk
theorem SepF.nilR (h : SepF F w0 w L) (t : TypeId) (size : Nat) : SepF F w0 w (L ++ [.rowR t size none 0 0 []]) := h.push (x := .rowR t size none 0 0 []) (OwnR.nil w 0 t size) (fun k hk => by cases hk) fun k hk => by cases hk

theorem SepF.turn (h : SepF F w0 w L) {i : Nat} {x y : It} (hi : L[i]? = some x) {row : Option Nat} (hg : w.grownBy w' row) (hrow : ∀ k, row = some k → x.block = some k) (hy : y.ok 0 w') (hd : ∀ k, y.block = some k → x.block = some k ∨ w.heap.size ≤ k) :
    SepF F w0 w' (L.set i y) := by
  have hil : i < L.length := by
    rcases Nat.lt_or_ge i L.length with h1 | h1
    · exact h1
    · rw [List.getElem?_eq_none h1] at hi; cases hi
  have split : ∀ (j : Nat) (z : It), (L.set i y)[j]? = some z → (j = i ∧ z = y) ∨ (j ≠ i ∧ L[j]? = some z) := by
    intro j z hz
    by_cases e : j = i
    · subst e; rw [List.getElem?_set_self hil] at hz; exact .inl ⟨rfl, by simpa using hz.symm⟩
    · rw [List.getElem?_set_ne (Ne.symm e)] at hz; exact .inr ⟨e, hz⟩
  have hxo := h.ok i x hi
  refine ⟨h.kept.of_grown hg (fun k hk => h.mine i x hi k (hrow k hk)), fun j z hz => ?_, fun j z hz k hk => ?_, fun j j' z z' hjj hz hz' k hk => ?_⟩
  · rcases split j z hz with ⟨_, rfl⟩ | ⟨e, h1⟩
    · exact hy
    · exact (h.ok j z h1).keep fun k hk hlt => hg.block k hlt fun e2 => h.apart j i z x e h1 hi k hk (hrow k e2.symm)
  · rcases split j z hz with ⟨_, rfl⟩ | ⟨e, h1⟩
    · rcases hd k hk with h3 | h3
      · exact h.mine i x hi k h3
      · exact .inr (Nat.le_trans h.size h3)
    · exact h.mine j z h1 k hk
  · rcases split j z hz with ⟨e1, rfl⟩ | ⟨e1, h1⟩ <;> rcases split j' z' hz' with ⟨e2, rfl⟩ | ⟨e2, h2⟩
    · omega
    · intro hk2
      rcases hd k hk with h3 | h3
      · exact h.apart i j' x z' (Ne.symm e2) hi h2 k h3 hk2
      · have := ((h.ok j' z' h2).lt k hk2).2; omega
    · intro hk2
      rcases hd k hk2 with h3 | h3
      · exact h.apart j i z x e1 h1 hi k hk h3
      · have := ((h.ok j z h1).lt k hk).2; omega
    · exact h.apart j j' z z' hjj h1 h2 k hk
theorem SepF.turned (h : SepF F w0 w L) {i : Nat} {x y : It} (hi : L[i]? = some x) (hg : w.grownBy w' x.block) (hy : y.ok 0 w') (hd : y.block = x.block ∨ y.block = some w.heap.size) : SepF F w0 w' (L.set i y) :=
  h.turn hi hg (fun _ hk => hk) hy fun k hk => by
    rcases hd with e | e
    · exact .inl (by rw [← e]; exact hk)
    · rw [hk] at e; injection e with e; exact .inr (by omega)
theorem SepF.store (h : SepF F w0 w L) (i : Nat) {g j : Nat} {t : TypeId} {cs : Array Value} (hi : L[i]? = some (.blk g t cs)) (v : Value) : SepF F w0 (w.setCell ⟨g, j, none⟩ v) (L.set i (.blk g t (cs.setIfInBounds j v))) :=
  h.turned hi (only_set (World.grownBy.refl w _) (.inl rfl) v) (y := .blk g t (cs.setIfInBounds j v)) ⟨Nat.zero_le _, (h.ok i _ hi).2.set_ j v⟩ (.inl rfl)
theorem SepF.pick (h : SepF F w0 w L) (is : List Nat) (hn : is.Nodup) : SepF F w0 w (is.map fun i => L.getD i .gone) := by
  have get : ∀ (j : Nat) (x : It), (is.map fun i => L.getD i .gone)[j]? = some x → ∃ i, is[j]? = some i ∧ x = L.getD i .gone := by
    intro j x hx
    rw [List.getElem?_map] at hx
    cases hi : is[j]? with
    | none => rw [hi] at hx; cases hx
    | some i => rw [hi] at hx; exact ⟨i, rfl, by simpa using hx.symm⟩
  have look : ∀ i : Nat, L[i]? = some (L.getD i .gone) ∨ L.getD i .gone = .gone := by
    intro i
    rw [List.getD_eq_getElem?_getD]
    cases L[i]? with
    | none => exact .inr rfl
    | some x => exact .inl rfl
  refine ⟨h.kept, fun j x hx => ?_, fun j x hx k hk => ?_, fun j j' x y hjj hx hy k hk hk2 => ?_⟩
  · obtain ⟨i, _, rfl⟩ := get j x hx
    rcases look i with h1 | h1
    · exact h.ok i _ h1
    · rw [h1]; trivial
  · obtain ⟨i, _, rfl⟩ := get j x hx
    rcases look i with h1 | h1
    · exact h.mine i _ h1 k hk
    · rw [h1] at hk; cases hk
  · obtain ⟨i, hi, rfl⟩ := get j x hx
    obtain ⟨i', hi', rfl⟩ := get j' y hy
    rcases look i with h1 | h1
    · rcases look i' with h2 | h2
      · refine h.apart i i' _ _ ?_ h1 h2 k hk hk2
        rintro rfl
        have hlt : j < is.length := (List.getElem?_eq_some_iff.1 hi).1
        exact hjj ((List.getElem?_inj hlt hn).1 (hi.trans hi'.symm))
      · rw [h2] at hk2; cases hk2
    · rw [h1] at hk; cases hk

theorem SepF.own (h : SepF F w0 w L) (i : Nat) {e : TypeId} {A : Option Addr} {c : Nat} {l : List UInt8} (hi : L[i]? = some (.row e A c l)) : Own w 0 e A c l := h.ok i _ hi
theorem SepF.rd (h : SepF F w0 w L) (i : Nat) {e : TypeId} {A : Option Addr} {c : Nat} {l : List UInt8} (hi : L[i]? = some (.row e A c l)) : Rd w A l := (h.own i hi).rd
theorem SepF.ownR (h : SepF F w0 w L) (i : Nat) {e : TypeId} {size : Nat} {A : Option Addr} {n c : Nat} {xs : List Value} (hi : L[i]? = some (.rowR e size A n c xs)) : OwnR w 0 e size A n c xs := h.ok i _ hi
theorem SepF.rdR (h : SepF F w0 w L) (i : Nat) {e : TypeId} {size : Nat} {A : Option Addr} {n c : Nat} {xs : List Value} (hi : L[i]? = some (.rowR e size A n c xs)) : RdR w A xs := (h.ownR i hi).rd
theorem SepF.blk (h : SepF F w0 w L) (i : Nat) {g : Nat} {t : TypeId} {cs : Array Value} (hi : L[i]? = some (.blk g t cs)) : Blk w g t cs := (h.ok i _ hi).2
theorem SepF.cell (h : SepF F w0 w L) (i j : Nat) {g : Nat} {t : TypeId} {cs : Array Value} (hi : L[i]? = some (.blk g t cs)) {v : Value} (hv : cs[j]? = some v) : w.cell? ⟨g, j, none⟩ = some v := ((h.blk i hi).cell j).trans hv
theorem SepF.frozen (h : SepF F w0 w L) (i j : Nat) {g : Nat} {t : TypeId} {cs : Array Value} (hi : L[i]? = some (.blk g t cs)) : w.frozen? ⟨g, j, none⟩ = false := (h.blk i hi).frozen j
theorem SepF.lt (h : SepF F w0 w L) (i : Nat) {g : Nat} {t : TypeId} {cs : Array Value} (hi : L[i]? = some (.blk g t cs)) : g < w.heap.size := (h.blk i hi).lt
/-- What was read of old memory that may not be written. -/
theorem SepF.old_rd (h : SepF F w0 w L) {A : Option Addr} {l : List UInt8} (hr : Rd w0 A l) (hA : ∀ k, ablk A = some k → ¬ F k) : Rd w A l :=
  hr.keep fun b o e hlt => h.kept.block b hlt (hA b (by rw [e]; rfl))
end

section
variable {P : Program} {F : Nat → Prop} {w0 w : World} {L : List It}
theorem wpList_appF (hS : SepF F w0 w L) (i : Nat) {ops : Array Oper} {rest : List Oper} {o : Oper} {a : Act} {Q : Exit → Act → World → Prop} {t e : TypeId} (hB : Byt P t e) {s x : Operand} (hw : Region.wanted o (yielded ops a.tmps) = true)
    (ho : o.op = .call { callee := .builtin .append, args := #[s, x], argTypes := #[t, t] })
    {A : Option Addr} {n c : Nat} {l : List UInt8} (hi : L[i]? = some (.row e A c l)) {A2 : Option Addr} {n2 c2 : Nat} {l2 : List UInt8} (hr : Rd w A2 l2) (hs : a.eval s = .slice A n c) (hx : a.eval x = .slice A2 n2 c2)
    (hn : n = l.length) (hn2 : n2 = l2.length) (hb : l.length + l2.length ≤ 140737488355328)
    (h : ∀ A' c' w', SepF F w0 w' (L.set i (.row e A' c' (l ++ l2))) → wpList P ops Q rest (a.put o.dst (.slice A' (l ++ l2).length c')) w') :
    wpList P ops Q (o :: rest) a w :=
  wpList_want hw fun _ hK => wp_app w s x hB ho hs hx (hS.own i hi) hr hn hn2 hb (Nat.zero_le _) fun A' c' w' h1 h2 h3 => hK _ _ (h A' c' w' (hS.turned hi h2 h1 h3))
end
end Go.Proofs.YtlkaaoekbmegkaaGreatDoor
/- The package-level variables whose values the proofs of this seat lean on. -/
set_option linter.all false
namespace Go.Proofs.YtlkaaoekbmegkaaGreatDoor
set_option linter.all false
open Go.RowKit
/-- What a package-level variable holds: cells of plain values, or an error made of a text. -/
inductive GE where
  | cells (cs : List Value)
  | err (t : TypeId) (l : List UInt8)
def globs : List (Nat × GE) := [(5, .cells ([1, 10, 100, 1000, 10000, 100000, 1000000, 10000000, 100000000, 1000000000, 10000000000, 100000000000, 1000000000000, 10000000000000, 100000000000000, 1000000000000000, 10000000000000000, 100000000000000000, 1000000000000000000, 10000000000000000000].map fun z => .int .u64 z)),
  (4, .err 183 [118, 97, 108, 117, 101, 32, 111, 117, 116, 32, 111, 102, 32, 114, 97, 110, 103, 101]),
  (3, .err 183 [105, 110, 118, 97, 108, 105, 100, 32, 115, 121, 110, 116, 97, 120])]
/-- Package-level variables of which the proofs know that they hold some integer. -/
def globInts : List Nat := [0]
end Go.Proofs.YtlkaaoekbmegkaaGreatDoor
