import Derived.WalkKit
import Derived.WalkSpells
import Derived.Maps.AppendAt
import Derived.Deep.AppendLies
import Derived.Deep.Draws
/- Words for memory, over any program: what a slice of bytes reads as, a row of bytes of the call's own, and the law of append over them. No condition. -/
namespace Go.Proofs.YtlkaaoekbmegkaaGreatDoor
set_option linter.all false
open Go.RowKit

theorem hide {p : Prop} (h : p) : Hid p := h

/-- The walk stands still here. -/
def Stop (p : Prop) : Prop := p
theorem stopAt {p : Prop} (h : Stop p) : p := h
theorem unstop {p : Prop} (h : p) : Stop p := h

/-- The ways through a piece of code meet again: they end in one frame and one world. -/
theorem wp_meet {P : Program} {c : Code} {Q : Exit → Act → World → Prop} {a : Act} {w : World} {A1 : Act} {W1 : World} (h : c.wp P (fun e a' w' => e = .normal ∧ a' = A1 ∧ w' = W1) a w) (hk : Q .normal A1 W1) : c.wp P Q a w :=
  wp_mono h fun _ _ _ ⟨h1, h2, h3⟩ => by subst h1 h2 h3; exact hk

/-- A byte as a cell. -/
def U (u : UInt8) : Value := .int .u8 (u.toNat : Int)

/-- The byte at a place, as the model's number. -/
def at8 (l : List UInt8) (k : Nat) : Int := ((l.getD k 0).toNat : Int)

theorem at8_lo (l : List UInt8) (k : Nat) : 0 ≤ at8 l k := by unfold at8; omega
theorem at8_hi (l : List UInt8) (k : Nat) : at8 l k ≤ 255 := by
  unfold at8; have := (l.getD k 0).toNat_lt; omega
theorem at8_get (l : List UInt8) (k : Nat) (h : k < l.length) : U l[k] = .int .u8 (at8 l k) := by
  unfold U at8; simp [List.getD, h]
theorem at8_drop (l : List UInt8) (i k : Nat) : at8 (l.drop i) k = at8 l (i + k) := by
  unfold at8; simp [List.getD]
theorem at8_take (l : List UInt8) (i k : Nat) (h : k < i) : at8 (l.take i) k = at8 l k := by
  unfold at8; simp [List.getD, h]

/-- The block that an address lies in. -/
def ablk (A : Option Addr) : Option Nat := A.map (·.block)

/-- Where a cut of a slice begins: the model's own 'if'. -/
def cutA (A : Option Addr) (cap i size : Nat) : Option Addr := if cap = i then A else A.map (·.add (i * size))
theorem sliced_cut (a : Option Addr) (l h m s : Nat) : sliced a l h m s = .slice (cutA a m l s) (h - l) (m - l) := rfl
attribute [go_sem ↓] sliced_cut
theorem addr_add_zero (a : Addr) : a.add 0 = a := by unfold Addr.add; simp
theorem cutA_zero (A : Option Addr) (c s : Nat) : cutA A c 0 s = A := by
  unfold cutA
  split
  · rfl
  · cases A <;> simp [addr_add_zero]
attribute [go_sem] cutA_zero
theorem cutA_blk (A : Option Addr) (c i s : Nat) : ablk (cutA A c i s) = ablk A := by
  unfold cutA
  split
  · rfl
  · cases A with
    | none => rfl
    | some a => simp [ablk, Addr.add]; split <;> rfl

/-- The slice '.slice A l.length c' reads as the bytes l. -/
def Rd (w : World) (A : Option Addr) (l : List UInt8) : Prop :=
  0 < l.length → ∃ b o, A = some ⟨b, o, none⟩ ∧ ∀ k, k < l.length → w.cell? ⟨b, o + k, none⟩ = some (.int .u8 (at8 l k))

section
variable {w w' : World} {A : Option Addr} {l : List UInt8}

theorem Rd.nil (w : World) (A : Option Addr) : Rd w A [] := fun h => absurd h (by simp)

theorem Rd.at_ (h : Rd w A l) (hl : 0 < l.length) : ∃ b o, A = some ⟨b, o, none⟩ ∧ b < w.heap.size ∧ ∀ k, k < l.length → w.cell? ⟨b, o + k, none⟩ = some (.int .u8 (at8 l k)) := by
  obtain ⟨b, o, e, hc⟩ := h hl
  exact ⟨b, o, e, World.block_lt_of_cell? w _ (hc 0 hl), hc⟩

theorem Rd.keep (h : Rd w A l) (hk : ∀ b o, A = some ⟨b, o, none⟩ → b < w.heap.size → w'.heap[b]? = w.heap[b]?) : Rd w' A l := by
  intro hl
  obtain ⟨b, o, e, hb, hc⟩ := h.at_ hl
  refine ⟨b, o, e, fun k hkl => ?_⟩
  rw [World.cell?_of_block (w := w) (w' := w') (hk b o e hb)]
  exact hc k hkl

/-- Below a bound nothing has turned, and the slice lies there. -/
theorem Rd.ext (h : Rd w A l) (hb : Below w.heap.size w w') : Rd w' A l := h.keep fun b _ _ hlt => hb.block b hlt
theorem Rd.below {B : Nat} (h : Rd w A l) (hb : Below B w w') (hA : ∀ k, ablk A = some k → k < B) : Rd w' A l :=
  h.keep fun b _ e _ => hb.block b (hA b (by subst e; rfl))
theorem Rd.grown {row : Option Nat} (h : Rd w A l) (hg : w.grownBy w' row) (hne : ∀ k, row = some k → ablk A ≠ some k) : Rd w' A l :=
  h.keep fun b _ e hlt => hg.block b hlt (fun e2 => hne b e2.symm (by subst e; rfl))
theorem Rd.alloc (h : Rd w A l) (o : Obj) : Rd (w.alloc o) A l := h.keep fun b _ _ hlt => Below.heap_alloc w o b hlt
theorem Rd.drew (h : Rd w A l) : Rd w.drew A l := h
theorem Rd.drewN (h : Rd w A l) (n : Nat) : Rd (w.drewN n) A l := h

theorem add_spot (b o k : Nat) : (⟨b, o, none⟩ : Addr).add k = ⟨b, o + k, none⟩ := by
  unfold Addr.add; split <;> simp_all

/-- A cut of a slice: 's[i:j]', its address under a name (so that the walk does not part on where the capacity ends). -/
theorem Rd.cut (h : Rd w A l) {i j cap : Nat} (hij : i ≤ j) (hj : j ≤ l.length) (hc : l.length ≤ cap) :
    Rd w (cutA A cap i 1) ((l.take j).drop i) := by
  unfold cutA
  rw [Nat.mul_one]
  intro hl
  have hlen : ((l.take j).drop i).length = j - i := by rw [List.length_drop, List.length_take]; omega
  rw [hlen] at hl
  obtain ⟨b, o, rfl, hcell⟩ := h (by omega)
  rw [if_neg (by omega)]
  refine ⟨b, o + i, by simp [add_spot], fun k hk => ?_⟩
  rw [hlen] at hk
  rw [at8_drop, at8_take _ _ _ (by omega), ← hcell (i + k) (by omega), Nat.add_assoc]
theorem Rd.part0 {b o i j : Nat} (h : Rd w (some ⟨b, o, none⟩) l) (hij : i ≤ j) (hj : j ≤ l.length) : Rd w (some ⟨b, o + i, none⟩) ((l.take j).drop i) := by
  have := h.cut (cap := l.length + i + 1) hij hj (by omega)
  unfold cutA at this
  rw [if_neg (by omega)] at this
  simpa [add_spot] using this
theorem part_len (l : List UInt8) (i j : Nat) (hj : j ≤ l.length) : ((l.take j).drop i).length = j - i := by rw [List.length_drop, List.length_take]; omega
end

/-- The row of bytes '.slice A l.length c' is the call's own: its block is not below 'base'. -/
def Own (w : World) (base : Nat) (e : TypeId) (A : Option Addr) (c : Nat) (l : List UInt8) : Prop :=
  w.ownsRow base e 1 (.slice A l.length c) l.length (l.map U)

section
variable {w w' : World} {base : Nat} {e : TypeId} {A : Option Addr} {c : Nat} {l : List UInt8}

theorem Own.nil (w : World) (base : Nat) (e : TypeId) : Own w base e none 0 [] := World.ownsRow_nil w base e 1

theorem Own.rd (h : Own w base e A c l) : Rd w A l := by
  intro hl
  rcases h.2 with ⟨hv, _⟩ | ⟨g, cap, cur, hv, hb, hg, hnc, hm, hsz, htake⟩
  · injection hv with _ h2
    omega
  · injection hv with h1 h2 h3
    refine ⟨g, 0, h1, fun k hk => ?_⟩
    rw [← at8_get l k hk, Nat.zero_add]
    have hcell : w.cell? ⟨g, k, none⟩ = cur[k]? := cell_of_row w g k cur e (0, 0) hg
    rw [hcell]
    have : (cur.toList.take (l.length * 1))[k]? = (l.map U)[k]? := by rw [htake]
    rw [Nat.mul_one, List.getElem?_take, if_pos hk, List.getElem?_map, List.getElem?_eq_getElem hk] at this
    simpa using this

theorem Own.cap (h : Own w base e A c l) : l.length ≤ c := by
  rcases h.2 with ⟨hv, h0⟩ | ⟨g, cap, cur, hv, hb, hg, hnc, hm, hsz, htake⟩
  · omega
  · injection hv with h1 h2 h3
    omega

theorem Own.cmax (h : Own w base e A c l) : c ≤ 9223372036854775807 := by
  rcases h.2 with ⟨hv, h0⟩ | ⟨g, cap, cur, hv, hb, hg, hnc, hm, hsz, htake⟩
  · injection hv with h1 h2 h3
    omega
  · injection hv with h1 h2 h3
    simp only [maxLen] at hm
    omega

theorem Own.lt (h : Own w base e A c l) : ∀ k, ablk A = some k → base ≤ k ∧ k < w.heap.size := by
  intro k hk
  refine World.ownsRow.lt h k ?_
  cases A with
  | none => simp [ablk] at hk
  | some a => simpa [ablk, Value.ownBlock] using hk

theorem own_blk (A : Option Addr) (n c : Nat) : (Value.slice A n c).ownBlock = ablk A := by cases A <;> rfl

theorem Own.kept {row : Option Nat} (h : Own w base e A c l) (hg : w.grownBy w' row) (hne : ∀ k, row = some k → ablk A ≠ some k) : Own w' base e A c l := by
  refine World.ownsRow.kept h hg ?_
  rw [own_blk]
  cases hA : ablk A with
  | none => exact .inl rfl
  | some k => exact .inr fun e2 => hne k e2.symm hA
theorem Own.keep (h : Own w base e A c l) (hk : ∀ k, ablk A = some k → k < w.heap.size → w'.heap[k]? = w.heap[k]?) : Own w' base e A c l := by
  refine ⟨h.1, ?_⟩
  rcases h.2 with h2 | ⟨g, cap, cur, hv, hb, hg, r⟩
  · exact .inl h2
  · refine .inr ⟨g, cap, cur, hv, hb, ?_, r⟩
    injection hv with h1 _ _
    rw [hk g (by rw [h1]; rfl) (Array.getElem?_eq_some_iff.1 hg).1]
    exact hg
theorem Own.ext (h : Own w base e A c l) (hb : Below w.heap.size w w') : Own w' base e A c l := h.keep fun k _ hlt => hb.block k hlt
theorem Own.alloc (h : Own w base e A c l) (o : Obj) : Own (w.alloc o) base e A c l := h.keep fun b _ hlt => Below.heap_alloc w o b hlt
theorem Own.drew (h : Own w base e A c l) : Own w.drew base e A c l := h
theorem Own.mono {base' : Nat} (h : Own w base e A c l) (hb : base' ≤ base) : Own w base' e A c l := by
  refine ⟨h.1, ?_⟩
  rcases h.2 with h2 | ⟨g, cap, cur, hv, hb2, r⟩
  · exact .inl h2
  · exact .inr ⟨g, cap, cur, hv, Nat.le_trans hb hb2, r⟩
/-- Behind a call that left all old memory as it was, a row that is new there is new here. -/
theorem Own.cast {l2 : List UInt8} (h : Own w base e A c l) (hl : l = l2) : Own w base e A c l2 := hl ▸ h
end

/-! ### Only one block, and what is new, has turned -/
theorem only_drew {a w : World} {row : Option Nat} (h : a.grownBy w row) : a.grownBy w.drew row := ⟨h.os, h.tape, h.output, h.size, h.block⟩
theorem only_drewN {a w : World} {row : Option Nat} (h : a.grownBy w row) (n : Nat) : a.grownBy (w.drewN n) row := ⟨h.os, h.tape, h.output, h.size, h.block⟩
theorem only_alloc {a w : World} {row : Option Nat} (h : a.grownBy w row) (o : Obj) : a.grownBy (w.alloc o) row :=
  ⟨h.os, h.tape, h.output, Nat.le_trans h.size (by simp), fun i hi hne => (Below.heap_alloc w o i (Nat.lt_of_lt_of_le hi h.size)).trans (h.block i hi hne)⟩
theorem only_set {a w : World} {g : Nat} (h : a.grownBy w (some g)) {p : Addr} (hp : p.block = g ∨ a.heap.size ≤ p.block) (u : Value) : a.grownBy (w.setCell p u) (some g) :=
  ⟨h.os, h.tape, h.output, by simpa [World.setCell] using h.size, fun i hi hne => (Below.heap_setCell w p u i (by
    rintro rfl
    rcases hp with hp | hp
    · exact hne (by rw [hp])
    · omega)).trans (h.block i hi hne)⟩
theorem only_new {a w : World} {row : Option Nat} (h : a.grownBy w row) {p : Addr} (hp : a.heap.size ≤ p.block) (u : Value) : a.grownBy (w.setCell p u) row :=
  ⟨h.os, h.tape, h.output, by simpa [World.setCell] using h.size, fun i hi hne => (Below.heap_setCell w p u i (by rintro rfl; omega)).trans (h.block i hi hne)⟩

/-! ### A block that is known whole -/
def Blk (w : World) (g : Nat) (t : TypeId) (cs : Array Value) : Prop := w.heap[g]? = some (.cells cs t (0, 0))
theorem Blk.lt {w : World} {g : Nat} {t : TypeId} {cs : Array Value} (h : Blk w g t cs) : g < w.heap.size := by
  rcases Nat.lt_or_ge g w.heap.size with hlt | hge
  · exact hlt
  · unfold Blk at h; rw [Array.getElem?_eq_none hge] at h; cases h
theorem Blk.cell {w : World} {g : Nat} {t : TypeId} {cs : Array Value} (h : Blk w g t cs) (i : Nat) : w.cell? ⟨g, i, none⟩ = cs[i]? := cell_of_row w g i cs t (0, 0) h
theorem Blk.frozen {w : World} {g : Nat} {t : TypeId} {cs : Array Value} (h : Blk w g t cs) (i : Nat) : w.frozen? ⟨g, i, none⟩ = false := by
  unfold Blk at h; simp [World.frozen?, h]
theorem Blk.new (w : World) (t : TypeId) (cs : Array Value) : Blk (w.alloc (.cells cs t)) w.heap.size t cs := heap_alloc_new w _
theorem Blk.new_at (w : World) (t : TypeId) (cs : Array Value) (g : Nat) (h : g = w.heap.size) : Blk (w.alloc (.cells cs t)) g t cs := h ▸ Blk.new w t cs
theorem Blk.drew {w : World} {g : Nat} {t : TypeId} {cs : Array Value} (h : Blk w g t cs) : Blk w.drew g t cs := h
theorem Blk.drewN {w : World} {g : Nat} {t : TypeId} {cs : Array Value} (h : Blk w g t cs) (n : Nat) : Blk (w.drewN n) g t cs := h
theorem Blk.alloc {w : World} {g : Nat} {t : TypeId} {cs : Array Value} (h : Blk w g t cs) (o : Obj) : Blk (w.alloc o) g t cs := (Below.heap_alloc w o g h.lt).trans h
theorem Blk.set_ {w : World} {g : Nat} {t : TypeId} {cs : Array Value} (h : Blk w g t cs) (i : Nat) (u : Value) : Blk (w.setCell ⟨g, i, none⟩ u) g t (cs.setIfInBounds i u) := by
  unfold Blk at h ⊢
  simp [World.setCell, Array.getElem?_modify, h]
theorem Blk.far {w : World} {g : Nat} {t : TypeId} {cs : Array Value} (h : Blk w g t cs) {p : Addr} (hp : g ≠ p.block) (u : Value) : Blk (w.setCell p u) g t cs := (Below.heap_setCell w p u g hp).trans h
theorem Blk.below {w w' : World} {g B : Nat} {t : TypeId} {cs : Array Value} (h : Blk w g t cs) (hb : Below B w w') (hg : g < B) : Blk w' g t cs := (hb.block g hg).trans h
theorem Blk.grown {w w' : World} {g : Nat} {t : TypeId} {cs : Array Value} {row : Option Nat} (h : Blk w g t cs) (hb : w.grownBy w' row) (hg : some g ≠ row) : Blk w' g t cs := (hb.block g h.lt hg).trans h
theorem Blk.ne_ {w : World} {g g' : Nat} {t t' : TypeId} {cs cs' : Array Value} (h : Blk w g t cs) (h' : Blk w g' t' cs') (hne : t ≠ t') : g ≠ g' := by
  rintro rfl
  unfold Blk at h h'
  rw [h] at h'
  injection h' with h'
  injection h' with _ ht
  exact hne ht

/-- The type t is a slice of bytes, e its element's type. -/
structure Byt (P : Program) (t e : TypeId) : Prop where
  under : P.underlying t = some (.slice e)
  info : (P.info? e).map (fun i => (i.zero, i.size, i.bytes)) = some (some (.int .u8 0), 1, 1)

/-- One new block of one byte. -/
def byteOf (x : Int) : UInt8 := UInt8.ofNat x.toNat
theorem byteOf_nat (x : Int) (h0 : 0 ≤ x) (h1 : x ≤ 255) : ((byteOf x).toNat : Int) = x := by
  unfold byteOf; simp; omega
theorem U_byteOf (x : Int) (h0 : 0 ≤ x) (h1 : x ≤ 255) : U (byteOf x) = .int .u8 x := by unfold U; rw [byteOf_nat x h0 h1]
theorem Own.one (w : World) {base : Nat} (e : TypeId) (x : Int) (h0 : 0 ≤ x) (h1 : x ≤ 255) (hb : base ≤ w.heap.size) :
    Own (w.alloc (.cells #[.int .u8 x] e)) base e (some ⟨w.heap.size, 0, none⟩) 1 [byteOf x] := by
  refine ⟨by simp, .inr ⟨w.heap.size, 1, #[.int .u8 x], rfl, hb, heap_alloc_new w _, Nat.le_refl _, by simp [maxLen], rfl, ?_⟩⟩
  simp [U_byteOf x h0 h1]
theorem Rd.one (w : World) (e : TypeId) (x : Int) (h0 : 0 ≤ x) (h1 : x ≤ 255) : Rd (w.alloc (.cells #[.int .u8 x] e)) (some ⟨w.heap.size, 0, none⟩) [byteOf x] :=
  (Own.one (base := 0) w e x h0 h1 (Nat.zero_le _)).rd

theorem U_one (l : List UInt8) : ∀ u ∈ l.map U, u.oneCell' = true := by
  intro u hu
  obtain ⟨_, _, rfl⟩ := List.mem_map.1 hu
  rfl

section
variable {P : Program} (w : World)

/-- append of bytes onto a row of the call's own. -/
theorem run_app {t e : TypeId} (hB : Byt P t e) (ty : TypeId) {base : Nat} {A : Option Addr} {c : Nat} {l : List UInt8} (hown : Own w base e A c l)
    {A2 : Option Addr} {c2 : Nat} {l2 : List UInt8} (hr : Rd w A2 l2) (hb : l.length + l2.length ≤ 140737488355328) (hbase : base ≤ w.heap.size) :
    ∃ A' c' w', (Builtin.append_ #[t, t] ty #[.slice A l.length c, .slice A2 l2.length c2]).run P w = .ok (.slice A' (l ++ l2).length c') w' ∧ Own w' base e A' c' (l ++ l2) ∧ w.grownBy w' (ablk A) ∧
      (ablk A' = ablk A ∨ ablk A' = some w.heap.size) := by
  obtain ⟨i, hi, hz, h1, h2⟩ := info_parts hB.info
  rcases Nat.eq_zero_or_pos l2.length with h0 | h0
  · have : l2 = [] := List.eq_nil_of_length_eq_zero h0
    subst this
    rcases A2 with _ | ad
    · refine ⟨A, c, w, ?_, by simpa using hown, World.grownBy.refl w _, .inl rfl⟩
      simp only [List.append_nil, List.length_nil]
      rcases hown.2 with ⟨hv, hn⟩ | ⟨g, cap, cur, hv, _, _, hnc, _⟩
      · rw [hv]
        simp [Builtin.append_, run_underlying hB.under, sizeOf, typeInfo, hi, Builtin.lenOf, Builtin.firstCells]
      · rw [hv]
        simp [Builtin.append_, run_underlying hB.under, sizeOf, typeInfo, hi, Builtin.lenOf, Builtin.firstCells, hnc, storeCells]
    · obtain ⟨v', w', hrun, ho, hg, _, h5⟩ := run_append_own_at (P := P) w base t ty e i (.int .u8 0) 1 1 hB.under hi hz h1 h2 rfl (by omega) _ l.length _ hown ad 0 c2 [] rfl (by simp) (by simp) (by simp only [maxLen]; omega) (by omega) hbase
      obtain ⟨A', c', rfl⟩ : ∃ A' c', v' = .slice A' l.length c' := by
        rcases ho.2 with ⟨hv, hn⟩ | ⟨g, cap, cur, hv, _⟩
        · exact ⟨none, 0, by rw [hv, show l.length = 0 by omega]⟩
        · exact ⟨_, _, hv⟩
      refine ⟨A', c', w', by simpa using hrun, ?_, by simpa [own_blk] using hg, by simpa [own_blk] using h5⟩
      simpa [Own] using ho
  · obtain ⟨b, o, rfl, hcell⟩ := hr h0
    obtain ⟨v', w', hrun, ho, hg, _, h5⟩ := run_append_own_at (P := P) w base t ty e i (.int .u8 0) 1 1 hB.under hi hz h1 h2 rfl (by omega) _ l.length _ hown ⟨b, o, none⟩ l2.length c2 (l2.map U) (by simp)
      (by
        intro j u hj
        rw [List.getElem?_map] at hj
        have hjl : j < l2.length := by
          rcases Nat.lt_or_ge j l2.length with h | h
          · exact h
          · rw [List.getElem?_eq_none h] at hj; cases hj
        rw [List.getElem?_eq_getElem hjl] at hj
        rw [add_spot, hcell j hjl, ← at8_get l2 j hjl]
        simpa using hj)
      (U_one l2) (by simp only [maxLen]; omega) (by omega) hbase
    obtain ⟨A', c', rfl⟩ : ∃ A' c', v' = .slice A' (l.length + l2.length) c' := by
      rcases ho.2 with ⟨hv, hn⟩ | ⟨g, cap, cur, hv, _⟩
      · exact ⟨none, 0, by rw [hv, hn]⟩
      · exact ⟨_, _, hv⟩
    refine ⟨A', c', w', by simpa using hrun, ?_, by simpa [own_blk] using hg, by simpa [own_blk] using h5⟩
    simpa [Own] using ho

theorem wp_app {o : Oper} {a : Act} {K : Act → World → Prop} {Q : Exit → Act → World → Prop} (s x : Operand) {t e : TypeId} (hB : Byt P t e)
    (ho : o.op = .call { callee := .builtin .append, args := #[s, x], argTypes := #[t, t] })
    {A : Option Addr} {n c : Nat} {A2 : Option Addr} {n2 c2 : Nat} (hs : a.eval s = .slice A n c) (hx : a.eval x = .slice A2 n2 c2)
    {base : Nat} {l l2 : List UInt8} (hown : Own w base e A c l) (hr : Rd w A2 l2) (hn : n = l.length) (hn2 : n2 = l2.length) (hb : l.length + l2.length ≤ 140737488355328) (hbase : base ≤ w.heap.size)
    (h : ∀ A' c' w', Own w' base e A' c' (l ++ l2) → w.grownBy w' (ablk A) → (ablk A' = ablk A ∨ ablk A' = some w.heap.size) → K (a.put o.dst (.slice A' (l ++ l2).length c')) w') : o.wp P a w K Q := by
  subst hn hn2
  obtain ⟨A', c', w', hrun, h2, h3, h4⟩ := run_app (P := P) w hB o.type hown (c2 := c2) hr hb hbase
  unfold Oper.wp execOp
  simp only [ho, resolve, invoke, builtin, Sem.run_bind, Sem.run_pure, Result.andThen_ok, List.map_toArray, List.map_cons, List.map_nil, hs, hx, hrun]
  exact h A' c' w' h2 h3 h4

theorem wpList_app {ops : Array Oper} {rest : List Oper} {o : Oper} {a : Act} {Q : Exit → Act → World → Prop} (hgd : o.guard = none) (s x : Operand) {t e : TypeId} (hB : Byt P t e)
    (ho : o.op = .call { callee := .builtin .append, args := #[s, x], argTypes := #[t, t] })
    {A : Option Addr} {n c : Nat} {A2 : Option Addr} {n2 c2 : Nat} (hs : a.eval s = .slice A n c) (hx : a.eval x = .slice A2 n2 c2)
    {base : Nat} {l l2 : List UInt8} (hown : Own w base e A c l) (hr : Rd w A2 l2) (hn : n = l.length) (hn2 : n2 = l2.length) (hb : l.length + l2.length ≤ 140737488355328) (hbase : base ≤ w.heap.size)
    (h : ∀ A' c' w', Own w' base e A' c' (l ++ l2) → w.grownBy w' (ablk A) → (ablk A' = ablk A ∨ ablk A' = some w.heap.size) → wpList P ops Q rest (a.put o.dst (.slice A' (l ++ l2).length c')) w') :
    wpList P ops Q (o :: rest) a w :=
  wpList_plain hgd fun _ hK => wp_app w s x hB ho hs hx hown hr hn hn2 hb hbase fun A' c' w' h2 h3 h4 => hK _ _ (h A' c' w' h2 h3 h4)

theorem step_app {ops : Array Oper} {o : Oper} {a : Act} {K : Act → World → Prop} {Q : Exit → Act → World → Prop} {E : Prop} (hgd : o.guard = none) (s x : Operand) {t e : TypeId} (hB : Byt P t e)
    (ho : o.op = .call { callee := .builtin .append, args := #[s, x], argTypes := #[t, t] })
    {A : Option Addr} {n c : Nat} {A2 : Option Addr} {n2 c2 : Nat} (hs : a.eval s = .slice A n c) (hx : a.eval x = .slice A2 n2 c2)
    {base : Nat} {l l2 : List UInt8} (hown : Own w base e A c l) (hr : Rd w A2 l2) (hn : n = l.length) (hn2 : n2 = l2.length) (hb : l.length + l2.length ≤ 140737488355328) (hbase : base ≤ w.heap.size)
    (h : ∀ A' c' w', Own w' base e A' c' (l ++ l2) → w.grownBy w' (ablk A) → (ablk A' = ablk A ∨ ablk A' = some w.heap.size) → K (a.put o.dst (.slice A' (l ++ l2).length c')) w') :
    if Region.wanted o (yielded ops a.tmps) = true then Oper.wp P o a w K Q else E := by
  have hw : Region.wanted o (yielded ops a.tmps) = true := by simp [Region.wanted, hgd]
  rw [if_pos hw]
  exact wp_app w s x hB ho hs hx hown hr hn hn2 hb hbase h
end

/-- What a row was appended to: nothing below 'base' has turned. -/
theorem Own.below {W W' w : World} {B base : Nat} {e : TypeId} {A : Option Addr} {c : Nat} {l : List UInt8} (h : Own W base e A c l) (hb : Below B w W) (hs : B ≤ W.heap.size) (hB : B ≤ base) (hg : W.grownBy W' (ablk A)) : Below B w W' :=
  hb.grown hg hs (fun k hk => Nat.le_trans hB (h.lt k hk).1)
/-- Two rows whose blocks differ. -/
theorem Own.fresh {W W2 : World} {base : Nat} {e e2 : TypeId} {A A2 : Option Addr} {c c2 : Nat} {l l2 : List UInt8} (h : Own W base e A c l) (h2 : Own W2 W.heap.size e2 A2 c2 l2) : ∀ k, ablk A = some k → ablk A2 ≠ some k := by
  intro k hk hk2
  have := (h.lt k hk).2
  have := (h2.lt k hk2).1
  omega

/-! ### Rows of any cells -/
/-- The type t is a slice of e's, each of 'size' cells. -/
structure RowT (P : Program) (t e : TypeId) (z : Value) (size bytes : Nat) : Prop where
  under : P.underlying t = some (.slice e)
  info : (P.info? e).map (fun i => (i.zero, i.size, i.bytes)) = some (some z, size, bytes)
  zs : z.cells.size = size
  pos : 0 < size

def RdR (w : World) (A : Option Addr) (xs : List Value) : Prop :=
  0 < xs.length → ∃ b o, A = some ⟨b, o, none⟩ ∧ ∀ j u, xs[j]? = some u → w.cell? ⟨b, o + j, none⟩ = some u
theorem RdR.at_ {w : World} {A : Option Addr} {xs : List Value} (h : RdR w A xs) (hl : 0 < xs.length) : ∃ b o, A = some ⟨b, o, none⟩ ∧ b < w.heap.size ∧ ∀ j u, xs[j]? = some u → w.cell? ⟨b, o + j, none⟩ = some u := by
  obtain ⟨b, o, e, hc⟩ := h hl
  exact ⟨b, o, e, World.block_lt_of_cell? w _ (hc 0 _ (List.getElem?_eq_getElem hl)), hc⟩
theorem RdR.keep {w w' : World} {A : Option Addr} {xs : List Value} (h : RdR w A xs) (hk : ∀ b o, A = some ⟨b, o, none⟩ → b < w.heap.size → w'.heap[b]? = w.heap[b]?) : RdR w' A xs := by
  intro hl
  obtain ⟨b, o, e, hb, hc⟩ := h.at_ hl
  refine ⟨b, o, e, fun j u hj => ?_⟩
  rw [World.cell?_of_block (w := w) (w' := w') (hk b o e hb)]
  exact hc j u hj
theorem RdR.ext {w w' : World} {A : Option Addr} {xs : List Value} (h : RdR w A xs) (hb : Below w.heap.size w w') : RdR w' A xs := h.keep fun b _ _ hlt => hb.block b hlt

def OwnR (w : World) (base : Nat) (e : TypeId) (size : Nat) (A : Option Addr) (n c : Nat) (xs : List Value) : Prop := w.ownsRow base e size (.slice A n c) n xs
section
variable {w w' : World} {base : Nat} {e : TypeId} {size : Nat} {A : Option Addr} {n c : Nat} {xs : List Value}
theorem OwnR.nil (w : World) (base : Nat) (e : TypeId) (size : Nat) : OwnR w base e size none 0 0 [] := World.ownsRow_nil w base e size
theorem OwnR.len (h : OwnR w base e size A n c xs) : xs.length = n * size := h.1
theorem OwnR.rd (h : OwnR w base e size A n c xs) : RdR w A xs := by
  intro hl
  rcases h.2 with ⟨hv, h0⟩ | ⟨g, cap, cur, hv, hb, hg, hnc, hm, hsz, htake⟩
  · have := h.1; rw [h0] at this; omega
  · injection hv with h1 h2 h3
    refine ⟨g, 0, h1, fun j u hj => ?_⟩
    rw [Nat.zero_add, cell_of_row w g j cur e (0, 0) hg]
    have : (cur.toList.take (n * size))[j]? = some u := by rw [htake]; exact hj
    rw [List.getElem?_take] at this
    split at this
    · simpa using this
    · cases this
theorem OwnR.cap (h : OwnR w base e size A n c xs) : n ≤ c := by
  rcases h.2 with ⟨hv, h0⟩ | ⟨g, cap, cur, hv, hb, hg, hnc, hm, hsz, htake⟩
  · omega
  · injection hv with h1 h2 h3
    omega
theorem OwnR.lt (h : OwnR w base e size A n c xs) : ∀ k, ablk A = some k → base ≤ k ∧ k < w.heap.size := by
  intro k hk
  refine World.ownsRow.lt h k ?_
  rw [own_blk]; exact hk
theorem OwnR.keep (h : OwnR w base e size A n c xs) (hk : ∀ k, ablk A = some k → k < w.heap.size → w'.heap[k]? = w.heap[k]?) : OwnR w' base e size A n c xs := by
  refine ⟨h.1, ?_⟩
  rcases h.2 with h2 | ⟨g, cap, cur, hv, hb, hg, r⟩
  · exact .inl h2
  · refine .inr ⟨g, cap, cur, hv, hb, ?_, r⟩
    injection hv with h1 _ _
    rw [hk g (by rw [h1]; rfl) (Array.getElem?_eq_some_iff.1 hg).1]
    exact hg
theorem OwnR.kept {row : Option Nat} (h : OwnR w base e size A n c xs) (hg : w.grownBy w' row) (hne : ∀ k, row = some k → ablk A ≠ some k) : OwnR w' base e size A n c xs :=
  h.keep fun k hA hlt => hg.block k hlt (fun e2 => hne k e2.symm hA)
theorem OwnR.ext (h : OwnR w base e size A n c xs) (hb : Below w.heap.size w w') : OwnR w' base e size A n c xs := h.keep fun k _ hlt => hb.block k hlt
theorem OwnR.alloc (h : OwnR w base e size A n c xs) (o : Obj) : OwnR (w.alloc o) base e size A n c xs := h.keep fun b _ hlt => Below.heap_alloc w o b hlt
theorem OwnR.new (w : World) (e : TypeId) (cs : Array Value) (n : Nat) (hb : base ≤ w.heap.size) (hn : cs.size = n * size) (hm : n ≤ maxLen) : OwnR (w.alloc (.cells cs e)) base e size (some ⟨w.heap.size, 0, none⟩) n n cs.toList :=
  ⟨by simpa using hn, .inr ⟨w.heap.size, n, cs, rfl, hb, heap_alloc_new w _, Nat.le_refl _, hm, hn, List.take_of_length_le (by simp [hn])⟩⟩
theorem OwnR.blk (h : OwnR w base e size A n c xs) : ∀ k, ablk A = some k → ∃ cur, Blk w k e cur := by
  intro k hk
  rcases h.2 with ⟨hv, _⟩ | ⟨g, cap, cur, hv, hb, hg, _⟩
  · injection hv with h1; rw [h1] at hk; cases hk
  · injection hv with h1; rw [h1] at hk; cases hk; exact ⟨cur, hg⟩
end
theorem Own.blk {W : World} {base : Nat} {e : TypeId} {A : Option Addr} {c : Nat} {l : List UInt8} (h : Own W base e A c l) : ∀ k, ablk A = some k → ∃ cur, Blk W k e cur := by
  intro k hk
  rcases h.2 with ⟨hv, _⟩ | ⟨g, cap, cur, hv, hb, hg, _⟩
  · injection hv with h1; rw [h1] at hk; cases hk
  · injection hv with h1; rw [h1] at hk; cases hk; exact ⟨cur, hg⟩
theorem Own.ne {W : World} {base g : Nat} {e t : TypeId} {A : Option Addr} {c : Nat} {l : List UInt8} {cs : Array Value} (h : Own W base e A c l) (hb : Blk W g t cs) (hne : e ≠ t) : ablk A ≠ some g := by
  intro hk
  obtain ⟨cur, h1⟩ := h.blk g hk
  exact h1.ne_ hb hne rfl
theorem Own.neR {W : World} {base base2 : Nat} {e e2 size n2 c2 : Nat} {A A2 : Option Addr} {c : Nat} {l : List UInt8} {xs : List Value} (h : Own W base e A c l) (h2 : OwnR W base2 e2 size A2 n2 c2 xs) (hne : e ≠ e2) : ∀ k, ablk A = some k → ablk A2 ≠ some k := by
  intro k hk hk2
  obtain ⟨cur, h1⟩ := h2.blk k hk2
  exact h.ne h1 hne hk

section
variable {P : Program} (w : World)
theorem run_appR {t e : TypeId} {z : Value} {size bytes : Nat} (hT : RowT P t e z size bytes) (ty : TypeId) {base : Nat} {A : Option Addr} {n c : Nat} {xs : List Value} (hown : OwnR w base e size A n c xs)
    {A2 : Option Addr} {m c2 : Nat} {ys : List Value} (hr : RdR w A2 ys) (hm : ys.length = m * size) (hm0 : 0 < m) (h1 : ∀ u ∈ ys, u.oneCell' = true) (h63 : n + m ≤ 140737488355328) (hb : (n + m) * bytes ≤ 140737488355328) (hbase : base ≤ w.heap.size) :
    ∃ A' c' w', (Builtin.append_ #[t, t] ty #[.slice A n c, .slice A2 m c2]).run P w = .ok (.slice A' (n + m) c') w' ∧ OwnR w' base e size A' (n + m) c' (xs ++ ys) ∧ w.grownBy w' (ablk A) ∧ (ablk A' = ablk A ∨ ablk A' = some w.heap.size) := by
  obtain ⟨i, hi, hz, hs1, hs2⟩ := info_parts hT.info
  obtain ⟨b, o, rfl, hcell⟩ := hr (by rw [hm]; exact Nat.mul_pos hm0 hT.pos)
  obtain ⟨v', w', hrun, ho, hg, _, h5⟩ := run_append_own_at (P := P) w base t ty e i z size bytes hT.under hi hz hs1 hs2 hT.zs hT.pos _ n _ hown ⟨b, o, none⟩ m c2 ys hm
    (fun j u hj => by rw [add_spot]; exact hcell j u hj) h1 (by simp only [maxLen]; omega) hb hbase
  obtain ⟨A', c', rfl⟩ : ∃ A' c', v' = .slice A' (n + m) c' := by
    rcases ho.2 with ⟨hv, hn⟩ | ⟨g, cap, cur, hv, _⟩
    · omega
    · exact ⟨_, _, hv⟩
  exact ⟨A', c', w', hrun, ho, by simpa [own_blk] using hg, by simpa [own_blk] using h5⟩

theorem wp_appR {o : Oper} {a : Act} {K : Act → World → Prop} {Q : Exit → Act → World → Prop} (s x : Operand) {t e : TypeId} {z : Value} {size bytes : Nat} (hT : RowT P t e z size bytes)
    (ho : o.op = .call { callee := .builtin .append, args := #[s, x], argTypes := #[t, t] }) {A : Option Addr} {n c : Nat} {A2 : Option Addr} {m c2 : Nat} (hs : a.eval s = .slice A n c) (hx : a.eval x = .slice A2 m c2)
    {base : Nat} {xs ys : List Value} (hown : OwnR w base e size A n c xs) (hr : RdR w A2 ys) (hm : ys.length = m * size) (hm0 : 0 < m) (h1 : ∀ u ∈ ys, u.oneCell' = true) (h63 : n + m ≤ 140737488355328) (hb : (n + m) * bytes ≤ 140737488355328) (hbase : base ≤ w.heap.size)
    (h : ∀ A' c' w', OwnR w' base e size A' (n + m) c' (xs ++ ys) → w.grownBy w' (ablk A) → (ablk A' = ablk A ∨ ablk A' = some w.heap.size) → K (a.put o.dst (.slice A' (n + m) c')) w') : o.wp P a w K Q := by
  obtain ⟨A', c', w', hrun, h2, h3, h4⟩ := run_appR (P := P) w hT o.type hown (c2 := c2) hr hm hm0 h1 h63 hb hbase
  unfold Oper.wp execOp
  simp only [ho, resolve, invoke, builtin, Sem.run_bind, Sem.run_pure, Result.andThen_ok, List.map_toArray, List.map_cons, List.map_nil, hs, hx, hrun]
  exact h A' c' w' h2 h3 h4

theorem wpList_appR {ops : Array Oper} {rest : List Oper} {o : Oper} {a : Act} {Q : Exit → Act → World → Prop} (hgd : o.guard = none) (s x : Operand) {t e : TypeId} {z : Value} {size bytes : Nat} (hT : RowT P t e z size bytes)
    (ho : o.op = .call { callee := .builtin .append, args := #[s, x], argTypes := #[t, t] }) {A : Option Addr} {n c : Nat} {A2 : Option Addr} {m c2 : Nat} (hs : a.eval s = .slice A n c) (hx : a.eval x = .slice A2 m c2)
    {base : Nat} {xs ys : List Value} (hown : OwnR w base e size A n c xs) (hr : RdR w A2 ys) (hm : ys.length = m * size) (hm0 : 0 < m) (h1 : ∀ u ∈ ys, u.oneCell' = true) (h63 : n + m ≤ 140737488355328) (hb : (n + m) * bytes ≤ 140737488355328) (hbase : base ≤ w.heap.size)
    (h : ∀ A' c' w', OwnR w' base e size A' (n + m) c' (xs ++ ys) → w.grownBy w' (ablk A) → (ablk A' = ablk A ∨ ablk A' = some w.heap.size) → wpList P ops Q rest (a.put o.dst (.slice A' (n + m) c')) w') : wpList P ops Q (o :: rest) a w :=
  wpList_plain hgd fun _ hK => wp_appR w s x hT ho hs hx hown hr hm hm0 h1 h63 hb hbase fun A' c' w' h2 h3 h4 => hK _ _ (h A' c' w' h2 h3 h4)

/-- bytes as a string. -/
theorem run_str {src e : TypeId} (hs : P.underlying src = some (.slice e)) (he : P.underlying e = some (.int .u8)) {A : Option Addr} {n c : Nat} {l : List UInt8} (hr : Rd w A l) (hn : n = l.length) {dst : TypeId} (hd : P.underlying dst = some .string) :
    (convert src dst (.slice A n c)).run P w = .ok (.string ⟨l.toArray⟩) w := by
  subst hn
  rcases Nat.eq_zero_or_pos l.length with h0 | h0
  · have : l = [] := List.eq_nil_of_length_eq_zero h0
    subst this
    cases A with
    | none => rw [run_convert_bytes_nil w src e hs he _ _ dst hd]; rfl
    | some a =>
      rw [List.length_nil, run_convert_bytes_string w src dst e _ _ c hs he hd, run_bytesToString w a 0 c [] (by simpa using run_loadCells_list (P := P) w a [] (by simp))]
      rfl
  · obtain ⟨b, o, rfl, hcell⟩ := hr h0
    rw [run_convert_bytes_arg w src e hs he b o l.length c (l.map fun u => (u.toNat : Int)) (by simp) (fun i hi => by
      rw [hcell i hi, ← at8_get l i hi]
      simp [U, List.getD, hi]) dst hd]
    simp [strOfNums, Function.comp_def]
end
theorem belowN {B : Nat} {a w : World} (h : Below B a w) (n : Nat) : Below B a (w.drewN n) := ⟨h.os, h.tape, h.output, h.size, h.block⟩
theorem OwnR.dN {w : World} {base : Nat} {e : TypeId} {size : Nat} {A : Option Addr} {n c : Nat} {xs : List Value} (h : OwnR w base e size A n c xs) (k : Nat) : OwnR (w.drewN k) base e size A n c xs := h
theorem Own.dN {w : World} {base : Nat} {e : TypeId} {A : Option Addr} {c : Nat} {l : List UInt8} (h : Own w base e A c l) (k : Nat) : Own (w.drewN k) base e A c l := h
/-- An empty row in a new block. -/
theorem Own.new0 (w : World) {base : Nat} (e : TypeId) (hb : base ≤ w.heap.size) : Own (w.alloc (.cells #[] e)) base e (some ⟨w.heap.size, 0, none⟩) 0 [] :=
  ⟨by simp, .inr ⟨w.heap.size, 0, #[], rfl, hb, heap_alloc_new w _, Nat.le_refl _, by simp [maxLen], rfl, by simp⟩⟩
theorem OwnR.below {W W' w : World} {B base : Nat} {e : TypeId} {size : Nat} {A : Option Addr} {n c : Nat} {xs : List Value} (h : OwnR W base e size A n c xs) (hb : Below B w W) (hs : B ≤ W.heap.size) (hB : B ≤ base) (hg : W.grownBy W' (ablk A)) : Below B w W' :=
  hb.grown hg hs (fun k hk => Nat.le_trans hB (h.lt k hk).1)
theorem Own.keptBy {W W' : World} {base : Nat} {e : TypeId} {A : Option Addr} {c : Nat} {l : List UInt8} {A2 : Option Addr} (h : Own W base e A c l) (hg : W.grownBy W' (ablk A2)) (hne : ∀ k, ablk A2 = some k → ablk A ≠ some k) : Own W' base e A c l := h.kept hg hne
end Go.Proofs.YtlkaaoekbmegkaaGreatDoor
