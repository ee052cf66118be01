/- What 'patch.Apply' computes. -/
import Derived.Test.YtcnfglnnmmhfiaaHunks
import Derived.Shelf.Abstract
namespace Go.Proofs.Ytcnfglnnmmhfiaa
set_option linter.all false
open Go.RowKit
attribute [local go_sem] wide_depth wide_fn
attribute [local go_sem] Oper.semAt_some

/-- The caller's own cells between two rounds. -/
def ApFr (w W : World) (bv ov : Value) (k : Nat) : Prop :=
  Blk W w.heap.size 22 #[bv] ∧ Blk W (w.heap.size + 1) 22 #[.slice none 0 0] ∧ Blk W (w.heap.size + 1 + 1) 28 #[.int .i64 0] ∧ Blk W (w.heap.size + 1 + 1 + 1) 22 #[ov] ∧ Blk W (w.heap.size + 1 + 1 + 1 + 1) 3 #[.int .i64 (k : Int)]
def ApI (w : World) (base : List UInt8) (bv : Value) (pre : List HkV) (W : World) : Prop :=
  ∃ (k : Nat) (out : List UInt8) (A : Option Addr) (c : Nat), Hid (∀ ys, applyGo base (pre.map HkV.el ++ ys) 0 [] = applyGo base ys k out) ∧ k ≤ base.length ∧ out.length ≤ k + sumB (pre.map HkV.el) ∧
    ApFr w W bv (.slice A out.length c) k ∧ Own W w.heap.size 5 A c out ∧ Below w.heap.size w W ∧ ∃ v, Boxed W (w.heap.size + 1 + 1 + 1 + 1 + 1) 22 v
def ApX (w : World) (base : List UInt8) (c : Code) (pre : List HkV) (W : World) : Prop :=
  c = .ret ∧ ∃ e : Nat, Hid (∀ ys, applyGo base (pre.map HkV.el ++ ys) 0 [] = .error e) ∧ Blk W (w.heap.size + 1) 22 #[.slice none 0 0] ∧ Blk W (w.heap.size + 1 + 1) 28 #[.int .i64 (e : Int)] ∧ Below w.heap.size w W

theorem Blk.own {W W' : World} {row : Option Nat} {g : Nat} {t : TypeId} {cs : Array Value} (h : Blk W g t cs) (hg : W.grownBy W' row) (hr : ∀ r, row = some r → ∃ o : Obj, W.heap[r]? = some o ∧ o.isCells = false) : Blk W' g t cs :=
  h.grown hg fun e => by obtain ⟨o, ho, hc⟩ := hr g e.symm; rw [show W.heap[g]? = _ from h] at ho; cases ho; cases hc
theorem Own.own {W W' : World} {row : Option Nat} {base : Nat} {e : TypeId} {A : Option Addr} {c : Nat} {l : List UInt8} (h : Own W base e A c l) (hg : W.grownBy W' row) (hr : ∀ r, row = some r → ∃ o : Obj, W.heap[r]? = some o ∧ o.isCells = false) : Own W' base e A c l :=
  h.kept hg fun k hk hA => by
    obtain ⟨cur, hb⟩ := h.blk k hA
    obtain ⟨o, ho, hc⟩ := hr k hk
    rw [show W.heap[k]? = _ from hb] at ho; cases ho; cases hc

theorem Own.keeps {W W' : World} {base : Nat} {e : TypeId} {A : Option Addr} {c : Nat} {l : List UInt8} (h : Own W base e A c l) (hg : W.grownBy W' (ablk A)) : KeepsOthers W W' :=
  KeepsOthers.of_grownBy hg fun j o hj ho => by
    obtain ⟨cur, hb⟩ := h.blk j hj
    rw [show W.heap[j]? = _ from hb] at ho; cases ho; rfl

theorem ApI_own (w : World) (base : List UInt8) (bv : Value) {B : Nat} (hB : w.heap.size ≤ B) : OwnFrom B (ApI w base bv) := by
  rintro s W W' row ⟨k, out, A, c, h1, h2, h3, ⟨b0, b1, b2, b3, b4⟩, ho, hb, v, hv⟩ hg hr
  have hr' : ∀ r, row = some r → ∃ o : Obj, W.heap[r]? = some o ∧ o.isCells = false := fun r e => (hr r e).2
  exact ⟨k, out, A, c, h1, h2, h3, ⟨b0.own hg hr', b1.own hg hr', b2.own hg hr', b3.own hg hr', b4.own hg hr'⟩, ho.own hg hr', hb.grown hg hb.size (fun r e => Nat.le_trans hB (hr r e).1), v, Blk.own (cs := #[v]) hv hg hr'⟩
theorem ApX_own (w : World) (base : List UInt8) (cd : Code) {B : Nat} (hB : w.heap.size ≤ B) : OwnFrom B (ApX w base cd) := by
  rintro s W W' row ⟨h0, e, h1, b1, b2, hb⟩ hg hr
  have hr' : ∀ r, row = some r → ∃ o : Obj, W.heap[r]? = some o ∧ o.isCells = false := fun r e => (hr r e).2
  exact ⟨h0, e, h1, b1.own hg hr', b2.own hg hr', hb.grown hg hb.size (fun r e => Nat.le_trans hB (hr r e).1)⟩
theorem ApI_step (w : World) (base : List UInt8) (bv : Value) : ∀ s A B, ApI w base bv s A → HkStep (w.heap.size + 1 + 1 + 1 + 1 + 1) A B → ApI w base bv s B := by
  rintro s W W' ⟨k, out, A, c, h1, h2, h3, ⟨b0, b1, b2, b3, b4⟩, ho, hb, v, hv⟩ ⟨hg, v', hv'⟩
  refine ⟨k, out, A, c, h1, h2, h3, ⟨b0.grown hg (by simp; omega), b1.grown hg (by simp), b2.grown hg (by simp), b3.grown hg (by simp), b4.grown hg (by simp)⟩, ho.kept hg (fun r e => ?_), hb.grown hg hb.size (fun r e => by cases e; omega), v', hv'⟩
  cases e
  exact ho.ne (cs := #[v]) hv (by decide)
theorem ApX_step (w : World) (base : List UInt8) : ∀ cd s A B, ApX w base cd s A → HkStep (w.heap.size + 1 + 1 + 1 + 1 + 1) A B → ApX w base cd s B := by
  rintro cd s W W' ⟨h0, e, h1, b1, b2, hb⟩ ⟨hg, v', hv'⟩
  exact ⟨h0, e, h1, b1.grown hg (by simp), b2.grown hg (by simp), hb.grown hg hb.size (fun r e => by cases e; omega)⟩

/-- What a round is handed, laid into the loop's own variables. -/
def ApA (w : World) (v0 v1 : Value) (most : Int) (lp : Value) (WL : World) (x : HkV) (a' : Act) (W : World) : Prop :=
  ∃ Bx, WL.heap.size ≤ Bx ∧ (∃ (a0 a1 e : Int) (Ax : Option Addr) (nx cx : Nat), Hid (x.vals = #[.agg #[.int .i64 a0, .int .i64 a1, .slice Ax nx cx], .int .i64 e]) ∧ Blk W Bx 39 #[.int .i64 a0, .int .i64 a1, .slice Ax nx cx] ∧
    a' = { tmps := #[v0, v1, .int .i64 most, .pointer (some ⟨w.heap.size, 0, none⟩), undef, undef, .pointer (some ⟨w.heap.size + 1, 0, none⟩), .pointer (some ⟨w.heap.size + 1 + 1, 0, none⟩), .pointer (some ⟨w.heap.size + 1 + 1 + 1, 0, none⟩), .pointer (some ⟨w.heap.size + 1 + 1 + 1 + 1, 0, none⟩), .pointer (some ⟨Bx, 0, none⟩), .int .i64 e, v1, lp, .agg #[.int .i64 a0, .int .i64 a1, .slice Ax nx cx], .int .i64 e, undef, undef, undef, undef, undef, undef, undef, undef, undef, undef, undef, undef, undef, undef, undef, undef, undef, undef, undef, undef, undef, undef, undef, undef, undef, undef, undef, undef, undef, undef, undef, undef, undef, undef, undef, undef, undef, undef, undef, undef, undef, undef, undef], defers := [] })

set_option maxHeartbeats 1000000 in
set_option maxRecDepth 100000 in
theorem patchApply (A1 A2 : Option Addr) (n1 n2 c1 c2 : Nat) (most : Int) (base p : List UInt8) (w : World) (hn1 : n1 = base.length) (hn2 : n2 = p.length) (h1 : Rd w A1 base) (h2 : Rd w A2 p)
    (hc1 : base.length ≤ c1) (hc2 : p.length ≤ c2) (hc3 : c2 ≤ 9223372036854775807) (hbd : base.length + p.length ≤ 1099511627776) (hA2 : ∀ k, ablk A2 = some k → k < w.heap.size) :
    Calls Try.prog 5 #[.slice A1 n1 c1, .slice A2 n2 c2, .int .i64 most] w fun e w' => ∃ A c, e = .returned (.tuple #[.slice A (applyRes base p most).1.length c, .int .i64 ((applyRes base p most).2 : Int)]) ∧
      Own w' w.heap.size 5 A c (applyRes base p most).1 ∧ Below w.heap.size w w' := by
  subst hn1 hn2
  refine calls_of_wp_marks Try.func5 rfl ?_
  simp only [Try.ntmps5, List.size_toArray, List.length_cons, List.length_nil, Nat.reduceAdd, Nat.reduceSub, Array.replicate_succ, Array.replicate_zero, List.push_toArray, List.append_toArray, List.nil_append, List.cons_append]
  go_wp2_with (go_at_call 8; refine (hunks_calls _ _ _ _).mono ?_; rintro e w' ⟨rfl, rfl⟩)
  refine wp_rangeFunc_step_wide ?_
  have hb0 : Below w.heap.size w ((((((w.alloc (.cells #[.slice A1 base.length c1] 22)).alloc (.cells #[.slice none 0 0] 22)).alloc (.cells #[.int .i64 0] 28)).alloc (.cells #[.slice none 0 0] 22)).alloc (.cells #[.int .i64 0] 3)).alloc (.cells #[.slice A2 p.length c2] 22)) :=
    ((((((Below.refl _ _).alloc (Nat.le_refl _) _).alloc (by simp) _).alloc (by simp; omega) _).alloc (by simp; omega) _).alloc (by simp; omega) _).alloc (by simp; omega) _
  have hsz : ((((((w.alloc (.cells #[.slice A1 base.length c1] 22)).alloc (.cells #[.slice none 0 0] 22)).alloc (.cells #[.int .i64 0] 28)).alloc (.cells #[.slice none 0 0] 22)).alloc (.cells #[.int .i64 0] 3)).alloc (.cells #[.slice A2 p.length c2] 22)).heap.size = w.heap.size + 1 + 1 + 1 + 1 + 1 + 1 := by simp
  have k0 : Blk ((((((w.alloc (.cells #[.slice A1 base.length c1] 22)).alloc (.cells #[.slice none 0 0] 22)).alloc (.cells #[.int .i64 0] 28)).alloc (.cells #[.slice none 0 0] 22)).alloc (.cells #[.int .i64 0] 3)).alloc (.cells #[.slice A2 p.length c2] 22)) w.heap.size 22 #[.slice A1 base.length c1] := by repeat (first | (refine Blk.new_at _ _ _ _ ?_; (first | rfl | (simp only [World.size_alloc]; done))) | refine Blk.alloc ?_ _)
  have k1 : Blk ((((((w.alloc (.cells #[.slice A1 base.length c1] 22)).alloc (.cells #[.slice none 0 0] 22)).alloc (.cells #[.int .i64 0] 28)).alloc (.cells #[.slice none 0 0] 22)).alloc (.cells #[.int .i64 0] 3)).alloc (.cells #[.slice A2 p.length c2] 22)) (w.heap.size + 1) 22 #[.slice none 0 0] := by repeat (first | (refine Blk.new_at _ _ _ _ ?_; (first | rfl | (simp only [World.size_alloc]; done))) | refine Blk.alloc ?_ _)
  have k2 : Blk ((((((w.alloc (.cells #[.slice A1 base.length c1] 22)).alloc (.cells #[.slice none 0 0] 22)).alloc (.cells #[.int .i64 0] 28)).alloc (.cells #[.slice none 0 0] 22)).alloc (.cells #[.int .i64 0] 3)).alloc (.cells #[.slice A2 p.length c2] 22)) (w.heap.size + 1 + 1) 28 #[.int .i64 0] := by repeat (first | (refine Blk.new_at _ _ _ _ ?_; (first | rfl | (simp only [World.size_alloc]; done))) | refine Blk.alloc ?_ _)
  have k3 : Blk ((((((w.alloc (.cells #[.slice A1 base.length c1] 22)).alloc (.cells #[.slice none 0 0] 22)).alloc (.cells #[.int .i64 0] 28)).alloc (.cells #[.slice none 0 0] 22)).alloc (.cells #[.int .i64 0] 3)).alloc (.cells #[.slice A2 p.length c2] 22)) (w.heap.size + 1 + 1 + 1) 22 #[.slice none 0 0] := by repeat (first | (refine Blk.new_at _ _ _ _ ?_; (first | rfl | (simp only [World.size_alloc]; done))) | refine Blk.alloc ?_ _)
  have k4 : Blk ((((((w.alloc (.cells #[.slice A1 base.length c1] 22)).alloc (.cells #[.slice none 0 0] 22)).alloc (.cells #[.int .i64 0] 28)).alloc (.cells #[.slice none 0 0] 22)).alloc (.cells #[.int .i64 0] 3)).alloc (.cells #[.slice A2 p.length c2] 22)) (w.heap.size + 1 + 1 + 1 + 1) 3 #[.int .i64 0] := by repeat (first | (refine Blk.new_at _ _ _ _ ?_; (first | rfl | (simp only [World.size_alloc]; done))) | refine Blk.alloc ?_ _)
  have k5 : Blk ((((((w.alloc (.cells #[.slice A1 base.length c1] 22)).alloc (.cells #[.slice none 0 0] 22)).alloc (.cells #[.int .i64 0] 28)).alloc (.cells #[.slice none 0 0] 22)).alloc (.cells #[.int .i64 0] 3)).alloc (.cells #[.slice A2 p.length c2] 22)) (w.heap.size + 1 + 1 + 1 + 1 + 1) 22 #[.slice A2 p.length c2] := by repeat (first | (refine Blk.new_at _ _ _ _ ?_; (first | rfl | (simp only [World.size_alloc]; done))) | refine Blk.alloc ?_ _)
  revert hb0 hsz k0 k1 k2 k3 k4 k5
  generalize ((((((w.alloc (.cells #[.slice A1 base.length c1] 22)).alloc (.cells #[.slice none 0 0] 22)).alloc (.cells #[.int .i64 0] 28)).alloc (.cells #[.slice none 0 0] 22)).alloc (.cells #[.int .i64 0] 3)).alloc (.cells #[.slice A2 p.length c2] 22)) = WL
  intro hb0 hsz k0 k1 k2 k3 k4 k5
  have hI0 : ApI w base (.slice A1 base.length c1) [] WL := ⟨0, [], none, 0, hide (fun ys => rfl), Nat.zero_le _, Nat.zero_le _, ⟨k0, k1, k2, k3, k4⟩, Own.nil _ _ _, hb0, _, k5⟩
  refine wpIn_rangeFunc_step (F := Fence.wide) (n := 5) rfl (by omega) (gf := 10) (lb := #[.pointer (some ⟨w.heap.size + 1 + 1 + 1 + 1 + 1, 0, none⟩)]) rfl trivial (enters_of Try.func10 (by kernel_rfl) rfl)
    (hunks_in w WL A2 c2 p (w.heap.size + 1 + 1 + 1 + 1 + 1) h2 hc2 hc3 hb0 hA2 (by omega) k5 _) (row0 := some (w.heap.size + 1 + 1 + 1 + 1 + 1)) (fun k e => by cases e; omega) (fun _ _ h => h.1)
    (fun h k => ⟨h.1.trans k.1, k.2.trans h.2⟩) (fun W l o o' hl ho _ _ => ⟨(Below.refl _ W).grown (grownBy_putObj' W l o') (by have := (Array.getElem?_eq_some_iff.1 ho).1; omega) (fun k e => by cases e; omega), World.putObj_heap_other (by omega)⟩) (fun x => by cases x with | mk er _ _ _ _ _ => cases er <;> rfl)
    (ApI w base (.slice A1 base.length c1)) (ApX w base) (ApI_own w base _ (by omega)) (fun c => ApX_own w base c (by omega)) (ApI_step w base _) (ApX_step w base) hI0
    (ApA w (.slice A1 base.length c1) (.slice A2 p.length c2) most (.func (.func 10) #[] #[.pointer (some ⟨w.heap.size + 1 + 1 + 1 + 1 + 1, 0, none⟩)]) WL) ?_ ?assign ?body ?done ?stop
  · rintro x a' s W W' row ⟨Bx, hBx, a0, a1, e, Ax, nx, cx, hv, hb, ha⟩ hg hr
    exact ⟨Bx, hBx, a0, a1, e, Ax, nx, cx, hv, hb.own hg (fun r e => (hr r e).2), ha⟩
  case assign =>
    intro l pre x W K hI hNx hK
    obtain ⟨kk, out, A, c, g1, g2, g3, g4, g5, hbel, v, hbx⟩ := hI
    have hI : ApI w base (.slice A1 base.length c1) pre W := ⟨kk, out, A, c, g1, g2, g3, g4, g5, hbel, v, hbx⟩
    have hlt := hbx.lt
    obtain ⟨a0, a1, er, Ax, nx, cx, hx⟩ : ∃ (a0 a1 e : Int) (Ax : Option Addr) (nx cx : Nat), x.vals = #[.agg #[.int .i64 a0, .int .i64 a1, .slice Ax nx cx], .int .i64 e] := by
      rcases x with ⟨er, _, _, _, _, _⟩
      cases er <;> exact ⟨_, _, _, _, _, _, rfl⟩
    rw [hx]
    have Hx := hide hx
    clear hx g1 g2 g3 g4 g5
    have hWL : WL.heap.size ≤ W.heap.size := by rw [hsz]; omega
    have Hsz := hide hsz
    clear hsz
    gi_wp2
    refine hK _ _ ((KeepsOthers.alloc _ _).from _) ⟨(Below.refl _ _).alloc hbel.size _, Below.heap_alloc _ _ _ hlt⟩ ((ApI_own w base _ (B := w.heap.size) (Nat.le_refl _)).alloc _ hI) ⟨W.heap.size, hWL, a0, a1, er, Ax, nx, cx, Hx, Blk.new _ _ _, rfl⟩
  case body =>
    intro l pre x a' W hl _ hI hAx hNx
    obtain ⟨Bx, hBx, a0, a1, er, Ax, nx, cx, Hx, hbx, rfl⟩ := hAx
    obtain ⟨kk, out, A, c, g1, g2, g3, ⟨b0, b1, b2, b3, b4⟩, hown, hbel, v, hbn⟩ := hI
    have Hsz := hide hsz
    have hBx2 : w.heap.size + 1 + 1 + 1 + 1 + 1 + 1 ≤ Bx := by rw [← hsz]; exact hBx
    clear hsz
    have c0 := b0.cell 0
    have c1' := b1.cell 0
    have c2' := b2.cell 0
    have c3' := b3.cell 0
    have c4' := b4.cell 0
    have d0 := hbx.cell 0
    have d1 := hbx.cell 1
    have d2 := hbx.cell 2
    have f1 := b1.frozen 0
    have f2 := b2.frozen 0
    have f3 := b3.frozen 0
    have f4 := b4.frozen 0
    simp at c0 c1' c2' c3' c4' d0 d1 d2
    rcases x with ⟨xe, xf, xt, xA, xc, xb⟩
    cases xe with
    | true =>
      have hx := Hx.out
      simp only [HkV.vals, if_true] at hx
      simp at hx
      obtain ⟨⟨rfl, rfl, rfl, rfl, rfl⟩, rfl⟩ := hx
      have HE : Hid (∀ ys, applyGo base ((pre ++ [(⟨true, xf, xt, xA, xc, xb⟩ : HkV)]).map HkV.el ++ ys) 0 [] = .error 3) := hide fun ys => by
        rw [List.map_append, List.append_assoc, g1.out]; rfl
      gi_wp2
      exact ⟨((KeepsOthers.setCell _ _ _).trans (KeepsOthers.setCell _ _ _)).from _, rfl, 3, HE, (b1.set_ 0 _).far (by simp) _, (b2.far (by simp) _).set_ 0 _, (hbel.setCell (p := ⟨w.heap.size + 1, 0, none⟩) (by simp) _).setCell (p := ⟨w.heap.size + 1 + 1, 0, none⟩) (by simp; omega) _⟩
    | false =>
      have hx := Hx.out
      simp only [HkV.vals, Bool.false_eq_true, if_false] at hx
      simp at hx
      obtain ⟨⟨rfl, rfl, rfl, rfl, rfl⟩, rfl⟩ := hx
      obtain ⟨hpre, hnx⟩ := hNx
      obtain ⟨hrx, hcx, hxf, hxt, hxl, hAx⟩ := hnx rfl
      simp only at hrx hcx hxf hxt hxl hAx
      have hsum := sumB_pre hpre
      have hsum2 : sumB (pre.map HkV.el) + xb.length ≤ p.length := by
        rw [List.map_append, sumB_append] at hsum; simpa [HkV.el, sumB] using hsum
      have Hpre := hide hpre
      clear hpre hnx hsum
      by_cases hbad : xt < xf ∨ base.length < xt ∨ xf < kk
      · have HE : Hid (∀ ys, applyGo base ((pre ++ [(⟨false, xf, xt, xA, xc, xb⟩ : HkV)]).map HkV.el ++ ys) 0 [] = .error 4) := hide fun ys => by
          rw [List.map_append, List.append_assoc, g1.out]; simp only [List.map_cons, List.map_nil, HkV.el, List.cons_append, List.nil_append, Bool.false_eq_true, if_false, applyGo]; rw [if_pos hbad]
        gi_wp2
        all_goals exact ⟨((KeepsOthers.setCell _ _ _).trans (KeepsOthers.setCell _ _ _)).from _, rfl, 4, HE, (b1.set_ 0 _).far (by simp) _, (b2.far (by simp) _).set_ 0 _, (hbel.setCell (p := ⟨w.heap.size + 1, 0, none⟩) (by simp) _).setCell (p := ⟨w.heap.size + 1 + 1, 0, none⟩) (by simp; omega) _⟩
      · have t1 : xf ≤ xt := by omega
        have t2 : xt ≤ base.length := by omega
        have t3 : kk ≤ xf := by omega
        have HE : Hid (∀ ys, applyGo base ((pre ++ [(⟨false, xf, xt, xA, xc, xb⟩ : HkV)]).map HkV.el ++ ys) 0 [] = applyGo base ys xt (out ++ (base.take xf).drop kk ++ xb)) := hide fun ys => by
          rw [List.map_append, List.append_assoc, g1.out]; simp only [List.map_cons, List.map_nil, HkV.el, List.cons_append, List.nil_append, Bool.false_eq_true, if_false, applyGo]; rw [if_neg hbad]
        clear hbad
        gi_wp2
        have i1 : (kk : Int) ≤ (xf : Int) := by omega
        have i2 : (xf : Int) ≤ (c1 : Int) := by omega
        refine regionIn_L (fun W' => W'.cell? ⟨w.heap.size + 1 + 1 + 1, 0, none⟩ = some (.slice A out.length c) ∧ W'.cell? ⟨w.heap.size, 0, none⟩ = some (.slice A1 base.length c1) ∧ W'.cell? ⟨w.heap.size + 1 + 1 + 1 + 1, 0, none⟩ = some (.int .i64 (kk : Int)) ∧ W'.cell? ⟨Bx, 0, none⟩ = some (.int .i64 (xf : Int)) ∧ W'.cell? ⟨Bx, 2, none⟩ = some (.slice xA xb.length xc)) (by kernel_rfl) (by kernel_rfl) (fun h => by obtain ⟨_, _, h⟩ := h; exact h) ?_
        have hS0 : (fun W' => W'.cell? ⟨w.heap.size + 1 + 1 + 1, 0, none⟩ = some (.slice A out.length c) ∧ W'.cell? ⟨w.heap.size, 0, none⟩ = some (.slice A1 base.length c1) ∧ W'.cell? ⟨w.heap.size + 1 + 1 + 1 + 1, 0, none⟩ = some (.int .i64 (kk : Int)) ∧ W'.cell? ⟨Bx, 0, none⟩ = some (.int .i64 (xf : Int)) ∧ W'.cell? ⟨Bx, 2, none⟩ = some (.slice xA xb.length xc)) W.drew := ⟨c3', c0, c4', d0, d2⟩
        refine' wpAnyL_take (i := 0) (v := _) rfl (by kernel_rfl) (by kernel_rfl) (by kernel_rfl) (fun _ _ _ h => h) hS0 (Or.inl ⟨by rfl, ?_⟩) ?_
        rotate_left
        · (intro W0 hW0; (try dsimp only at hW0); go_split_ands; go_simp; (first | done | rfl))
        simp only [List.getElem_toArray, List.getElem_cons_succ, List.getElem_cons_zero, Act.put, List.setIfInBounds_toArray, List.set_cons_zero, List.set_cons_succ]
        refine' wpAnyL_take (i := 1) (v := _) rfl (by kernel_rfl) (by kernel_rfl) (by kernel_rfl) (fun _ _ _ h => h) hS0 (Or.inl ⟨by rfl, ?_⟩) ?_
        rotate_left
        · (intro W0 hW0; (try dsimp only at hW0); go_split_ands; go_simp; (first | done | rfl))
        simp only [List.getElem_toArray, List.getElem_cons_succ, List.getElem_cons_zero, Act.put, List.setIfInBounds_toArray, List.set_cons_zero, List.set_cons_succ]
        refine' wpAnyL_take (i := 2) (v := _) rfl (by kernel_rfl) (by kernel_rfl) (by kernel_rfl) (fun _ _ _ h => h) hS0 (Or.inl ⟨by rfl, ?_⟩) ?_
        rotate_left
        · (intro W0 hW0; (try dsimp only at hW0); go_split_ands; go_simp; (first | done | rfl))
        simp only [List.getElem_toArray, List.getElem_cons_succ, List.getElem_cons_zero, Act.put, List.setIfInBounds_toArray, List.set_cons_zero, List.set_cons_succ]
        refine' wpAnyL_take (i := 3) (v := _) rfl (by kernel_rfl) (by kernel_rfl) (by kernel_rfl) (fun _ _ _ h => h) hS0 (Or.inl ⟨by rfl, ?_⟩) ?_
        rotate_left
        · (intro W0 hW0; (try dsimp only at hW0); go_split_ands; go_simp; (first | done | rfl))
        simp only [List.getElem_toArray, List.getElem_cons_succ, List.getElem_cons_zero, Act.put, List.setIfInBounds_toArray, List.set_cons_zero, List.set_cons_succ]
        refine' wpAnyL_take (i := 4) (v := _) rfl (by kernel_rfl) (by kernel_rfl) (by kernel_rfl) (fun _ _ _ h => h) hS0 (Or.inl ⟨by rfl, ?_⟩) ?_
        rotate_left
        · (intro W0 hW0; (try dsimp only at hW0); go_split_ands; go_simp; (first | done | rfl))
        simp only [List.getElem_toArray, List.getElem_cons_succ, List.getElem_cons_zero, Act.put, List.setIfInBounds_toArray, List.set_cons_zero, List.set_cons_succ]
        refine' wpAnyL_take (i := 5) (v := _) rfl (by kernel_rfl) (by kernel_rfl) (by kernel_rfl) (fun _ _ _ h => h) hS0 (Or.inl ⟨by rfl, ?_⟩) ?_
        rotate_left
        · (intro W0 hW0; (try dsimp only at hW0); go_split_ands; go_simp; (first | done | rfl))
        simp only [List.getElem_toArray, List.getElem_cons_succ, List.getElem_cons_zero, Act.put, List.setIfInBounds_toArray, List.set_cons_zero, List.set_cons_succ]
        refine' wpAnyL_take (i := 7) (v := _) rfl (by kernel_rfl) (by kernel_rfl) (by kernel_rfl) (fun _ _ _ h => h) hS0 (Or.inl ⟨by rfl, ?_⟩) ?_
        rotate_left
        · (intro W0 hW0; (try dsimp only at hW0); go_split_ands; go_simp; (first | done | rfl))
        simp only [List.getElem_toArray, List.getElem_cons_succ, List.getElem_cons_zero, Act.put, List.setIfInBounds_toArray, List.set_cons_zero, List.set_cons_succ]
        refine' wpAnyL_take (i := 8) (v := _) rfl (by kernel_rfl) (by kernel_rfl) (by kernel_rfl) (fun _ _ _ h => h) hS0 (Or.inl ⟨by rfl, ?_⟩) ?_
        rotate_left
        · (intro W0 hW0; (try dsimp only at hW0); go_split_ands; go_simp; (first | done | rfl))
        simp only [List.getElem_toArray, List.getElem_cons_succ, List.getElem_cons_zero, Act.put, List.setIfInBounds_toArray, List.set_cons_zero, List.set_cons_succ]
        have hrc := (h1.ext hbel).cut (i := kk) (j := xf) t3 (by omega) hc1
        have hlc : ((base.take xf).drop kk).length = xf - kk := part_len _ _ _ (by omega)
        have hrx2 : Rd W xA xb := hrx.ext hbel
        have hBl : Bx < W.heap.size := hbx.lt
        refine wpAnyL_one (i := 6) rfl (by kernel_rfl) (fun K hK => ?_)
        simp only [List.getElem_toArray, List.getElem_cons_succ, List.getElem_cons_zero]
        rw [if_pos (by rfl)]
        refine wp_app W.drew (.tmp 37) (.tmp 42) byt rfl (A := A) (n := out.length) (c := c) (A2 := cutA A1 c1 kk 1) (n2 := xf - kk) (c2 := c1 - kk) ?e1 ?e2 (base := w.heap.size) (l := out) hown (l2 := (base.take xf).drop kk) hrc rfl (by rw [hlc]) (by rw [hlc]; omega) hbel.size ?_
        case e1 => rfl
        case e2 => rfl
        intro A' c' w1 hown1 hg1' hd1
        have hg1 := undrew hg1'
        clear hg1'
        generalize cutA A1 c1 kk 1 = Ai
        have b31 := b3.grown hg1 (hown.ne b3 (by decide)).symm
        have b01 := b0.grown hg1 (hown.ne b0 (by decide)).symm
        have b41 := b4.grown hg1 (hown.ne b4 (by decide)).symm
        have b11 := b1.grown hg1 (hown.ne b1 (by decide)).symm
        have b21 := b2.grown hg1 (hown.ne b2 (by decide)).symm
        have hbx1 := hbx.grown hg1 (hown.ne hbx (by decide)).symm
        have hbn1 : Boxed w1 _ _ _ := Blk.grown (cs := #[v]) hbn hg1 (hown.ne (cs := #[v]) hbn (by decide)).symm
        have hbel1 := hbel.grown hg1 hbel.size (fun k hk => (hown.lt k hk).1)
        have hS1 : (fun W' => W'.cell? ⟨w.heap.size + 1 + 1 + 1, 0, none⟩ = some (.slice A out.length c) ∧ W'.cell? ⟨w.heap.size, 0, none⟩ = some (.slice A1 base.length c1) ∧ W'.cell? ⟨w.heap.size + 1 + 1 + 1 + 1, 0, none⟩ = some (.int .i64 (kk : Int)) ∧ W'.cell? ⟨Bx, 0, none⟩ = some (.int .i64 (xf : Int)) ∧ W'.cell? ⟨Bx, 2, none⟩ = some (.slice xA xb.length xc)) w1 := ⟨b31.cell 0, b01.cell 0, b41.cell 0, hbx1.cell 0, hbx1.cell 2⟩
        refine hK _ _ hS1 ?_
        clear hK K hS0
        simp only [Act.put, List.setIfInBounds_toArray, List.set_cons_zero, List.set_cons_succ]
        refine wpAnyL_one (i := 9) rfl (by kernel_rfl) (fun K hK => ?_)
        simp only [List.getElem_toArray, List.getElem_cons_succ, List.getElem_cons_zero]
        rw [if_pos (by rfl)]
        refine wp_app w1 (.tmp 43) (.tmp 45) byt rfl (A := A') (n := (out ++ (base.take xf).drop kk).length) (c := c') (A2 := xA) (n2 := xb.length) (c2 := xc) ?e3 ?e4 (base := w.heap.size) (l := out ++ (base.take xf).drop kk) hown1 (l2 := xb) (hrx.ext hbel1) rfl rfl (by rw [List.length_append, hlc]; omega) hbel1.size ?_
        case e3 => rfl
        case e4 => rfl
        intro A'' c'' w2 hown2 hg2 hd2
        have hO3 : (out ++ (base.take xf).drop kk ++ xb).length ≤ xt + sumB ((pre ++ [(⟨false, xf, xt, xA, xc, xb⟩ : HkV)]).map HkV.el) := by
          rw [List.map_append, sumB_append, List.length_append, List.length_append, hlc]; simp [HkV.el, sumB]; omega
        generalize hO : out ++ (base.take xf).drop kk ++ xb = out2 at hown2 HE hO3 ⊢
        have HO := hide hO
        clear hO
        have b32 := b31.grown hg2 (hown1.ne b31 (by decide)).symm
        have b02 := b01.grown hg2 (hown1.ne b01 (by decide)).symm
        have b42 := b41.grown hg2 (hown1.ne b41 (by decide)).symm
        have b12 := b11.grown hg2 (hown1.ne b11 (by decide)).symm
        have b22 := b21.grown hg2 (hown1.ne b21 (by decide)).symm
        have hbx2 := hbx1.grown hg2 (hown1.ne hbx1 (by decide)).symm
        have hbn2 : Boxed w2 _ _ _ := Blk.grown (cs := #[v]) hbn1 hg2 (hown1.ne (cs := #[v]) hbn1 (by decide)).symm
        have hbel2 := hbel1.grown hg2 hbel1.size (fun k hk => (hown1.lt k hk).1)
        have hS2 : (fun W' => W'.cell? ⟨w.heap.size + 1 + 1 + 1, 0, none⟩ = some (.slice A out.length c) ∧ W'.cell? ⟨w.heap.size, 0, none⟩ = some (.slice A1 base.length c1) ∧ W'.cell? ⟨w.heap.size + 1 + 1 + 1 + 1, 0, none⟩ = some (.int .i64 (kk : Int)) ∧ W'.cell? ⟨Bx, 0, none⟩ = some (.int .i64 (xf : Int)) ∧ W'.cell? ⟨Bx, 2, none⟩ = some (.slice xA xb.length xc)) w2 := ⟨b32.cell 0, b02.cell 0, b42.cell 0, hbx2.cell 0, hbx2.cell 2⟩
        refine hK _ _ hS2 ?_
        clear hK K hS1
        simp only [Act.put, List.setIfInBounds_toArray, List.set_cons_zero, List.set_cons_succ]
        refine wpAnyL_last (i := 10) rfl (by kernel_rfl) (by kernel_rfl) (by kernel_rfl) (fun K hK => ?_)
        simp only [List.getElem_toArray, List.getElem_cons_succ, List.getElem_cons_zero]
        have q3 := b32.cell 0
        have q3f := b32.frozen 0
        simp at q3
        go_simp
        refine hK _ _ ?_
        clear hK K hS2
        have b33 := b32.set_ 0 (Value.slice A'' out2.length c'')
        have b03 := b02.far (p := ⟨w.heap.size + 1 + 1 + 1, 0, none⟩) (by show w.heap.size ≠ w.heap.size + 1 + 1 + 1; omega) (Value.slice A'' out2.length c'')
        have b13 := b12.far (p := ⟨w.heap.size + 1 + 1 + 1, 0, none⟩) (by show w.heap.size + 1 ≠ w.heap.size + 1 + 1 + 1; omega) (Value.slice A'' out2.length c'')
        have b23 := b22.far (p := ⟨w.heap.size + 1 + 1 + 1, 0, none⟩) (by show w.heap.size + 1 + 1 ≠ w.heap.size + 1 + 1 + 1; omega) (Value.slice A'' out2.length c'')
        have b43 := b42.far (p := ⟨w.heap.size + 1 + 1 + 1, 0, none⟩) (by show w.heap.size + 1 + 1 + 1 + 1 ≠ w.heap.size + 1 + 1 + 1; omega) (Value.slice A'' out2.length c'')
        have hbx3 := hbx2.far (p := ⟨w.heap.size + 1 + 1 + 1, 0, none⟩) (by show Bx ≠ w.heap.size + 1 + 1 + 1; omega) (Value.slice A'' out2.length c'')
        have hbn3 := Blk.far (cs := #[v]) hbn2 (p := ⟨w.heap.size + 1 + 1 + 1, 0, none⟩) (by show w.heap.size + 1 + 1 + 1 + 1 + 1 ≠ w.heap.size + 1 + 1 + 1; omega) (Value.slice A'' out2.length c'')
        have hbel3 := hbel2.setCell (p := ⟨w.heap.size + 1 + 1 + 1, 0, none⟩) (by simp; omega) (Value.slice A'' out2.length c'')
        have hown3 : Own (w2.setCell ⟨w.heap.size + 1 + 1 + 1, 0, none⟩ (Value.slice A'' out2.length c'')) w.heap.size 5 A'' c'' out2 := hown2.kept (grownBy_setCell' w2 _ _) (fun k e => by cases e; exact hown2.ne b32 (by decide))
        have z1 := hbx3.cell 1
        have z4 := b43.cell 0
        have z4f := b43.frozen 0
        simp at z1 z4 z4f
        gi_wp2
        refine ⟨?_, ⟨?_, ?_⟩, xt, _, A'', c'', HE, t2, hO3, ⟨?_, ?_, ?_, ?_, ?_⟩, ?_, ?_, v, ?_⟩
        · exact ((((hown.keeps hg1).trans (hown1.keeps hg2)).trans (KeepsOthers.setCell _ _ _)).trans (KeepsOthers.setCell _ _ _)).from _
        · exact ((((Below.refl _ W).grown hg1 hbel.size (fun k hk => (hown.lt k hk).1)).grown hg2 hbel1.size (fun k hk => (hown1.lt k hk).1)).setCell (p := ⟨w.heap.size + 1 + 1 + 1, 0, none⟩) (by show w.heap.size ≤ w.heap.size + 1 + 1 + 1; omega) _).setCell (p := ⟨w.heap.size + 1 + 1 + 1 + 1, 0, none⟩) (by show w.heap.size ≤ w.heap.size + 1 + 1 + 1 + 1; omega) _
        · exact (hbn3.far (p := ⟨w.heap.size + 1 + 1 + 1 + 1, 0, none⟩) (by show w.heap.size + 1 + 1 + 1 + 1 + 1 ≠ w.heap.size + 1 + 1 + 1 + 1; omega) _).trans hbn.symm
        · exact b03.far (p := ⟨w.heap.size + 1 + 1 + 1 + 1, 0, none⟩) (by show w.heap.size ≠ w.heap.size + 1 + 1 + 1 + 1; omega) _
        · exact b13.far (p := ⟨w.heap.size + 1 + 1 + 1 + 1, 0, none⟩) (by show w.heap.size + 1 ≠ w.heap.size + 1 + 1 + 1 + 1; omega) _
        · exact b23.far (p := ⟨w.heap.size + 1 + 1 + 1 + 1, 0, none⟩) (by show w.heap.size + 1 + 1 ≠ w.heap.size + 1 + 1 + 1 + 1; omega) _
        · exact b33.far (p := ⟨w.heap.size + 1 + 1 + 1 + 1, 0, none⟩) (by show w.heap.size + 1 + 1 + 1 ≠ w.heap.size + 1 + 1 + 1 + 1; omega) _
        · exact b43.set_ 0 _
        · exact hown3.kept (grownBy_setCell' _ _ _) (fun k e => by cases e; exact hown3.ne b43 (by decide))
        · exact hbel3.setCell (p := ⟨w.heap.size + 1 + 1 + 1 + 1, 0, none⟩) (by show w.heap.size ≤ w.heap.size + 1 + 1 + 1 + 1; omega) _
        · exact hbn3.far (p := ⟨w.heap.size + 1 + 1 + 1 + 1, 0, none⟩) (by show w.heap.size + 1 + 1 + 1 + 1 + 1 ≠ w.heap.size + 1 + 1 + 1 + 1; omega) _
  case done =>
    rintro D xs W hD hS ⟨kk, out, A, c, g1, g2, g3, ⟨b0, b1, b2, b3, b4⟩, hown, hbel, v, hbn⟩ hK
    have HG : Hid (applyGo base (parse p.length p) 0 [] = .ok (out ++ base.drop kk)) := hide (by rw [← hS]; have := g1.out []; rw [List.append_nil] at this; rw [this]; rfl)
    have hsum : sumB (xs.map HkV.el) ≤ p.length := by rw [hS]; exact sumB_parse _ _
    have HD : w.heap.size + 1 + 1 + 1 + 1 + 1 + 1 ≤ D := by rw [← hsz]; exact hD
    clear hS g1 hsz hD
    have c0 := b0.cell 0
    have c1' := b1.cell 0
    have c2' := b2.cell 0
    have c3' := b3.cell 0
    have c4' := b4.cell 0
    have f1 := b1.frozen 0
    have f2 := b2.frozen 0
    have f3 := b3.frozen 0
    simp at c0 c1' c2' c3' c4'
    go_wp2
    have i1 : (kk : Int) ≤ (base.length : Int) := by omega
    have i2 : (base.length : Int) ≤ (c1 : Int) := by omega
    have i3 : (kk : Int) ≤ (c1 : Int) := by omega
    refine wp_region_L (fun W' => W'.cell? ⟨w.heap.size + 1 + 1 + 1, 0, none⟩ = some (.slice A out.length c) ∧ W'.cell? ⟨w.heap.size, 0, none⟩ = some (.slice A1 base.length c1) ∧ W'.cell? ⟨w.heap.size + 1 + 1 + 1 + 1, 0, none⟩ = some (.int .i64 (kk : Int))) (by kernel_rfl) ?_
    have hS0 : (fun W' => W'.cell? ⟨w.heap.size + 1 + 1 + 1, 0, none⟩ = some (.slice A out.length c) ∧ W'.cell? ⟨w.heap.size, 0, none⟩ = some (.slice A1 base.length c1) ∧ W'.cell? ⟨w.heap.size + 1 + 1 + 1 + 1, 0, none⟩ = some (.int .i64 (kk : Int))) W.drew := ⟨c3', c0, c4'⟩
    refine' wpAnyL_take (i := 0) (v := _) rfl (by kernel_rfl) (by kernel_rfl) (by kernel_rfl) (fun _ _ _ h => h) hS0 (Or.inl ⟨by rfl, ?_⟩) ?_
    rotate_left
    · (intro W0 hW0; (try dsimp only at hW0); go_split_ands; go_simp; (first | done | rfl))
    simp only [List.getElem_toArray, List.getElem_cons_succ, List.getElem_cons_zero, Act.put, List.setIfInBounds_toArray, List.set_cons_zero, List.set_cons_succ]
    refine' wpAnyL_take (i := 1) (v := _) rfl (by kernel_rfl) (by kernel_rfl) (by kernel_rfl) (fun _ _ _ h => h) hS0 (Or.inl ⟨by rfl, ?_⟩) ?_
    rotate_left
    · (intro W0 hW0; (try dsimp only at hW0); go_split_ands; go_simp; (first | done | rfl))
    simp only [List.getElem_toArray, List.getElem_cons_succ, List.getElem_cons_zero, Act.put, List.setIfInBounds_toArray, List.set_cons_zero, List.set_cons_succ]
    refine' wpAnyL_take (i := 2) (v := _) rfl (by kernel_rfl) (by kernel_rfl) (by kernel_rfl) (fun _ _ _ h => h) hS0 (Or.inl ⟨by rfl, ?_⟩) ?_
    rotate_left
    · (intro W0 hW0; (try dsimp only at hW0); go_split_ands; go_simp; (first | done | rfl))
    simp only [List.getElem_toArray, List.getElem_cons_succ, List.getElem_cons_zero, Act.put, List.setIfInBounds_toArray, List.set_cons_zero, List.set_cons_succ]
    refine' wpAnyL_take (i := 3) (v := _) rfl (by kernel_rfl) (by kernel_rfl) (by kernel_rfl) (fun _ _ _ h => h) hS0 (Or.inl ⟨by rfl, ?_⟩) ?_
    rotate_left
    · (intro W0 hW0; (try dsimp only at hW0); go_split_ands; go_simp; (first | done | rfl))
    simp only [List.getElem_toArray, List.getElem_cons_succ, List.getElem_cons_zero, Act.put, List.setIfInBounds_toArray, List.set_cons_zero, List.set_cons_succ]
    have hrc := (h1.ext hbel).cut (i := kk) (j := base.length) g2 (Nat.le_refl _) hc1
    rw [List.take_length] at hrc
    refine wpAnyL_one (i := 4) rfl (by kernel_rfl) (fun K hK' => ?_)
    simp only [List.getElem_toArray, List.getElem_cons_succ, List.getElem_cons_zero]
    rw [if_pos (by rfl)]
    refine wp_app W.drew (.tmp 49) (.tmp 52) byt rfl (A := A) (n := out.length) (c := c) (A2 := cutA A1 c1 kk 1) (n2 := base.length - kk) (c2 := c1 - kk) ?e1 ?e2 (base := w.heap.size) (l := out) hown (l2 := base.drop kk) hrc rfl (by rw [List.length_drop]) (by rw [List.length_drop]; omega) hbel.size ?_
    case e1 => rfl
    case e2 => rfl
    intro A' c' w1 hown1 hg1' hd1
    have hg1 := undrew hg1'
    clear hg1'
    generalize cutA A1 c1 kk 1 = Ai
    have b31 := b3.grown hg1 (hown.ne b3 (by decide)).symm
    have b01 := b0.grown hg1 (hown.ne b0 (by decide)).symm
    have b41 := b4.grown hg1 (hown.ne b4 (by decide)).symm
    have b11 := b1.grown hg1 (hown.ne b1 (by decide)).symm
    have b21 := b2.grown hg1 (hown.ne b2 (by decide)).symm
    have hbel1 := hbel.grown hg1 hbel.size (fun k hk => (hown.lt k hk).1)
    have hK1 := (hown.keeps hg1).same D _ hK rfl
    have hol : (out ++ base.drop kk).length ≤ 1099511627776 := by rw [List.length_append, List.length_drop]; omega
    generalize hO : out ++ base.drop kk = res at hown1 HG hol ⊢
    have HO := hide hO
    clear hO
    refine hK' _ _ ⟨b31.cell 0, b01.cell 0, b41.cell 0⟩ ?_
    clear hK' hS0
    simp only [Act.put, List.setIfInBounds_toArray, List.set_cons_zero, List.set_cons_succ]
    refine wpAnyL_last (i := 5) rfl (by kernel_rfl) (by kernel_rfl) (by kernel_rfl) (fun K hK => ?_)
    simp only [List.getElem_toArray, List.getElem_cons_succ, List.getElem_cons_zero]
    have q3 := b31.cell 0
    have q3f := b31.frozen 0
    simp at q3
    go_simp
    refine hK _ _ (NoPanic.normal ?_)
    clear hK K
    have b32 := b31.set_ 0 (Value.slice A' res.length c')
    have b12 := b11.far (p := ⟨w.heap.size + 1 + 1 + 1, 0, none⟩) (by show w.heap.size + 1 ≠ w.heap.size + 1 + 1 + 1; omega) (Value.slice A' res.length c')
    have b22 := b21.far (p := ⟨w.heap.size + 1 + 1 + 1, 0, none⟩) (by show w.heap.size + 1 + 1 ≠ w.heap.size + 1 + 1 + 1; omega) (Value.slice A' res.length c')
    have hbel2 := hbel1.setCell (p := ⟨w.heap.size + 1 + 1 + 1, 0, none⟩) (by show w.heap.size ≤ w.heap.size + 1 + 1 + 1; omega) (Value.slice A' res.length c')
    have hown2 : Own (w1.setCell ⟨w.heap.size + 1 + 1 + 1, 0, none⟩ (Value.slice A' res.length c')) w.heap.size 5 A' c' res := hown1.kept (grownBy_setCell' w1 _ _) (fun k e => by cases e; exact hown1.ne b31 (by decide))
    have hK2 := (KeepsOthers.setCell w1 ⟨w.heap.size + 1 + 1 + 1, 0, none⟩ (Value.slice A' res.length c')).same D _ hK1 rfl
    have z1 := b12.cell 0
    have z1f := b12.frozen 0
    have z2 := b22.cell 0
    have z2f := b22.frozen 0
    have z3 := b32.cell 0
    simp at z1 z2 z3 z1f z2f
    by_cases hm : most < (res.length : Int)
    · have hres : applyRes base p most = ([], 2) := by unfold applyRes; rw [HG.out]; simp only []; rw [if_pos hm]
      have Hres := hide hres
      clear hres
      have b13 := b12.set_ 0 (.slice none 0 0)
      have b23 := b22.far (p := ⟨w.heap.size + 1, 0, none⟩) (by show w.heap.size + 1 + 1 ≠ w.heap.size + 1; omega) (.slice none 0 0)
      have b14 := b13.far (p := ⟨w.heap.size + 1 + 1, 0, none⟩) (by show w.heap.size + 1 ≠ w.heap.size + 1 + 1; omega) (.int .i64 2)
      have b24 := b23.set_ 0 (.int .i64 2)
      have hK3 := (KeepsOthers.setCell _ ⟨w.heap.size + 1 + 1, 0, none⟩ (.int .i64 2)).same D _ ((KeepsOthers.setCell _ ⟨w.heap.size + 1, 0, none⟩ (.slice none 0 0)).same D _ hK2 rfl) rfl
      have hbel3 := (hbel2.setCell (p := ⟨w.heap.size + 1, 0, none⟩) (by show w.heap.size ≤ w.heap.size + 1; omega) (.slice none 0 0)).setCell (p := ⟨w.heap.size + 1 + 1, 0, none⟩) (by show w.heap.size ≤ w.heap.size + 1 + 1; omega) (.int .i64 2)
      go_wp2
      rw [Hres.out]
      have y1 := (b14.own (grownBy_putObj' _ D (.deferred none)) (fun r e => by cases e; exact ⟨_, hK3, rfl⟩)).cell 0
      have y2 := (b24.own (grownBy_putObj' _ D (.deferred none)) (fun r e => by cases e; exact ⟨_, hK3, rfl⟩)).cell 0
      simp at y1 y2
      refine ⟨by simp, .inl ⟨_, _, rfl, run_takeDeferred hK3, ?_⟩⟩
      refine ⟨.tuple #[.slice none 0 0, .int .i64 2], ?_, none, 0, rfl, Own.nil _ _ _, below_put hbel3 hbel3.size (by omega) _⟩
      simp [results, Try.f5, go_sem, y1, y2]
    · have hres : applyRes base p most = (res, 0) := by unfold applyRes; rw [HG.out]; simp only []; rw [if_neg hm]
      have Hres := hide hres
      clear hres
      have b13 := b12.set_ 0 (Value.slice A' res.length c')
      have b23 := b22.far (p := ⟨w.heap.size + 1, 0, none⟩) (by show w.heap.size + 1 + 1 ≠ w.heap.size + 1; omega) (Value.slice A' res.length c')
      have b14 := b13.far (p := ⟨w.heap.size + 1 + 1, 0, none⟩) (by show w.heap.size + 1 ≠ w.heap.size + 1 + 1; omega) (.int .i64 0)
      have b24 := b23.set_ 0 (.int .i64 0)
      have hK3 := (KeepsOthers.setCell _ ⟨w.heap.size + 1 + 1, 0, none⟩ (.int .i64 0)).same D _ ((KeepsOthers.setCell _ ⟨w.heap.size + 1, 0, none⟩ (Value.slice A' res.length c')).same D _ hK2 rfl) rfl
      have hbel3 := (hbel2.setCell (p := ⟨w.heap.size + 1, 0, none⟩) (by show w.heap.size ≤ w.heap.size + 1; omega) (Value.slice A' res.length c')).setCell (p := ⟨w.heap.size + 1 + 1, 0, none⟩) (by show w.heap.size ≤ w.heap.size + 1 + 1; omega) (.int .i64 0)
      have hown3 := (hown2.kept (grownBy_setCell' _ (w.heap.size + 1) (Value.slice A' res.length c')) (fun k e => by cases e; exact hown2.ne b12 (by decide)))
      have hown4 := (hown3.kept (grownBy_setCell' _ (w.heap.size + 1 + 1) (.int .i64 0)) (fun k e => by cases e; exact hown3.ne b23 (by decide)))
      go_wp2
      rw [Hres.out]
      have y1 := (b14.own (grownBy_putObj' _ D (.deferred none)) (fun r e => by cases e; exact ⟨_, hK3, rfl⟩)).cell 0
      have y2 := (b24.own (grownBy_putObj' _ D (.deferred none)) (fun r e => by cases e; exact ⟨_, hK3, rfl⟩)).cell 0
      simp at y1 y2
      refine ⟨by simp, .inl ⟨_, _, rfl, run_takeDeferred hK3, ?_⟩⟩
      refine ⟨.tuple #[(Value.slice A' res.length c'), .int .i64 0], ?_, A', c', rfl, hown4.own (grownBy_putObj' _ D (.deferred none)) (fun r e => by cases e; exact ⟨_, hK3, rfl⟩), below_put hbel3 hbel3.size (by omega) _⟩
      simp [results, Try.f5, go_sem, y1, y2]
  case stop =>
    rintro D cd pre W hD hpre ⟨rfl, er, g1, b1, b2, hbel⟩ hK
    have HD : w.heap.size + 1 + 1 + 1 + 1 + 1 + 1 ≤ D := by rw [← hsz]; exact hD
    obtain ⟨rest, hrest⟩ := hpre
    have hres : applyRes base p most = ([], er) := by unfold applyRes; rw [← hrest, g1.out]
    have Hres := hide hres
    clear hres hrest hsz hD
    refine wpIn_wide.2 ?_
    go_wp2
    rw [Hres.out]
    have y1 := (b1.own (grownBy_putObj' _ D (.deferred none)) (fun r e => by cases e; exact ⟨_, hK, rfl⟩)).cell 0
    have y2 := (b2.own (grownBy_putObj' _ D (.deferred none)) (fun r e => by cases e; exact ⟨_, hK, rfl⟩)).cell 0
    simp at y1 y2
    refine ⟨by simp, .inl ⟨_, _, rfl, run_takeDeferred hK, ?_⟩⟩
    refine ⟨.tuple #[.slice none 0 0, .int .i64 (er : Int)], ?_, none, 0, rfl, Own.nil _ _ _, below_put hbel hbel.size (by omega) _⟩
    simp [results, Try.f5, go_sem, y1, y2]
end Go.Proofs.Ytcnfglnnmmhfiaa
