/- What 'patch.hunks' hands back, and the contract of the function that it makes. -/
import Derived.Test.YtcnfglnnmmhfiaaBe
import Derived.Test.YtcnfglnnmmhfiaaParse
import Derived.Test.YtcnfglnnmmhfiaaRange
import Derived.LoopIn
import Derived.TacticsInMore
import Derived.BigFrameIn
import Derived.OwnWalkIn
import Derived.Deep.RegionHeld3
namespace Go.Proofs.Ytcnfglnnmmhfiaa
set_option linter.all false
open Go.RowKit
attribute [local go_sem] wide_depth wide_fn

set_option maxHeartbeats 400000 in
theorem hunks_calls (A : Option Addr) (n c : Nat) (w : World) :
    Calls Try.prog 8 #[.slice A n c] w fun e w' => e = .returned (.func (.func 10) #[] #[.pointer (some ⟨w.heap.size, 0, none⟩)]) ∧ w.alloc (.cells #[.slice A n c] 22) = w' := by
  go_enter Try.func8, Try.ntmps8
  go_wp2
  go_ret
  exact ⟨rfl, rfl⟩

def HkV.vals (x : HkV) : Array Value := if x.err then #[.agg #[.int .i64 0, .int .i64 0, .slice none 0 0], .int .i64 3] else #[.agg #[.int .i64 x.fr, .int .i64 x.tt, .slice x.A x.b.length x.c], .int .i64 0]

/-- What is known of the next element: w: the world in which the patch's bytes lie as they lay. -/
def HkNext (w : World) (l : List UInt8) (pre : List HkV) (x : HkV) : Prop :=
  (pre ++ [x]).map HkV.el <+: parse l.length l ∧ (x.err = false → Rd w x.A x.b ∧ x.b.length ≤ x.c ∧ x.fr < 4294967296 ∧ x.tt < 4294967296 ∧ x.b.length ≤ l.length ∧ ∀ k, ablk x.A = some k → k < w.heap.size)

theorem HkNext.mk {w : World} {l : List UInt8} {pre : List HkV} {x : HkV} (h : (pre ++ [x]).map HkV.el <+: parse l.length l) (h2 : x.err = false → Rd w x.A x.b ∧ x.b.length ≤ x.c ∧ x.fr < 4294967296 ∧ x.tt < 4294967296 ∧ x.b.length ≤ l.length ∧ ∀ k, ablk x.A = some k → k < w.heap.size) : HkNext w l pre x := ⟨h, h2⟩

/-- The iterator's own steps: its variable, and what is new. -/
def HkStep (Bn : Nat) (A B : World) : Prop := A.grownBy B (some Bn) ∧ ∃ v, Boxed B Bn 22 v

def boxLen (w : World) (b : Nat) : Nat := match w.cell? ⟨b, 0, none⟩ with | some (.slice _ n _) => n | _ => 0

theorem boxLen_of {w : World} {b : Nat} {t : TypeId} {A : Option Addr} {n c : Nat} (h : Boxed w b t (.slice A n c)) : boxLen w b = n := by simp [boxLen, h.cell]

set_option maxHeartbeats 1000000 in
set_option maxRecDepth 100000 in
theorem hunks_in (w0 w : World) (A : Option Addr) (c : Nat) (l : List UInt8) (Bn : Nat) (hr : Rd w0 A l) (hlc : l.length ≤ c) (hc : c ≤ 9223372036854775807) (h0 : Below w0.heap.size w0 w) (hA : ∀ k, ablk A = some k → k < w0.heap.size) (hBn : w0.heap.size ≤ Bn) (hbox : Boxed w Bn 22 (.slice A l.length c)) (m : Nat) :
    SeqT Fence.wide m Try.prog 10 #[.pointer (some ⟨Bn, 0, none⟩)] HkV.vals (HkStep Bn) (fun W W' => Below w0.heap.size W W' ∧ W'.heap[Bn]? = W.heap[Bn]?) (HkNext w0 l)
      (fun xs => xs.map HkV.el = parse l.length l) (fun xs => xs.map HkV.el <+: parse l.length l) w := by
  intro lp J Jx W hW hJ hJx hY hst
  refine callsIn_of_wp Try.func10 rfl trivial ?_ rfl
  simp only [Try.ntmps10, List.size_toArray, List.length_cons, List.length_nil, Nat.reduceAdd, Nat.reduceSub, Array.replicate_succ, Array.replicate_zero, List.push_toArray, List.append_toArray, List.nil_append, List.cons_append]
  gi_wp2
  gi_loopw [5] (fun _ wr => ∃ (pre : List HkV) (rest : List UInt8) (A' : Option Addr) (c' : Nat), Boxed wr Bn 22 (.slice A' rest.length c') ∧ rest.length ≤ c' ∧ c' ≤ 9223372036854775807 ∧ Rd w0 A' rest ∧ rest.length ≤ l.length ∧
      (∀ k, ablk A' = some k → k < w0.heap.size) ∧ pre.map HkV.el ++ parse rest.length rest = parse l.length l ∧ J pre wr ∧ Below w0.heap.size w0 wr)
    (fun _ wr => boxLen wr Bn)
  case atStart => exact ⟨[], l, A, c, (hW.block Bn hbox.lt).trans hbox, hlc, hc, hr, Nat.le_refl _, hA, rfl, hst, h0.trans (hW.mono h0.size)⟩
  case round =>
    obtain ⟨pre, rest, A', c', hb, hrc, hc', hrr, hrl, hA', hpar, hj, hbel⟩ := hrel
    have hcell := hb.cell
    by_cases hz : rest.length = 0
    · have hp0 : parse rest.length rest = [] := by rw [hz]; rfl
      gi_wp2
      go_end0
      exact ⟨⟨_, rfl⟩, .inl ⟨pre, by rw [← hpar, hp0, List.append_nil], hj⟩⟩
    by_cases h12 : rest.length < 12
    · have hp0 : parse rest.length rest = [none] := by
        obtain ⟨k, hk⟩ : ∃ k, rest.length = k + 1 := ⟨rest.length - 1, by omega⟩
        rw [hk]; simp only [parse]; rw [if_neg hz, if_pos h12]
      have hall : (pre ++ [(⟨true, 0, 0, none, 0, []⟩ : HkV)]).map HkV.el = parse l.length l := by rw [← hpar, hp0, List.map_append]; rfl
      obtain ⟨fn, tm, asg, bo, hy, hR⟩ := hY pre ⟨true, 0, 0, none, 0, []⟩ wr hj (HkNext.mk (by rw [hall]; exact List.prefix_refl _) (fun h => by cases h))
      have HP := hide hpar
      have HA := hide hall
      have Hz := hide hp0
      clear hpar hall hp0
      simp only [HkV.vals, if_true] at hy
      gi_wp2
      refine hR.mono ?_
      rintro e W3 (⟨rfl, hJ3, _⟩ | ⟨rfl, hJx3⟩)
      · gi_wp2
        refine bodyPost_ret (results_none rfl _ _ _) rfl ?_
        exact ⟨⟨_, rfl⟩, .inl ⟨_, HA.out, hJ3⟩⟩
      · gi_wp2
        refine bodyPost_ret (results_none rfl _ _ _) rfl ?_
        exact ⟨⟨_, rfl⟩, .inr ⟨_, by rw [HA.out]; exact List.prefix_refl _, hJx3⟩⟩
    · obtain ⟨b, o, rfl, hblt, _⟩ := hrr.at_ (by omega)
      have hc12 : 12 ≤ c' := by omega
      have hi4 : (4 : Int) ≤ (c' : Int) := by omega
      have hi8 : (8 : Int) ≤ (c' : Int) := by omega
      have hi12 : (12 : Int) ≤ (c' : Int) := by omega
      have f1 : ∀ W, Below w0.heap.size w0 W → Calls Try.prog 11 #[.slice (some ⟨b, o, none⟩) 4 c'] W fun e w' => e = .returned (.int .u64 (beVal ((rest.take 4).drop 0))) ∧ W = w' := fun W hW =>
        numsFromBe _ _ _ _ W (by rw [part_len _ _ _ (by omega)]) (hrr.part0 (Nat.zero_le _) (by omega) |>.ext hW) (by rw [part_len _ _ _ (by omega)]; omega)
      have f2 : ∀ W, Below w0.heap.size w0 W → Calls Try.prog 11 #[.slice (cutA (some ⟨b, o, none⟩) c' 4 1) 4 (c' - 4)] W fun e w' => e = .returned (.int .u64 (beVal ((rest.take 8).drop 4))) ∧ W = w' := fun W hW =>
        numsFromBe _ _ _ _ W (by rw [part_len _ _ _ (by omega)]) (hrr.cut (by omega) (by omega) hrc |>.ext hW) (by rw [part_len _ _ _ (by omega)]; omega)
      have f3 : ∀ W, Below w0.heap.size w0 W → Calls Try.prog 11 #[.slice (cutA (some ⟨b, o, none⟩) c' 8 1) 4 (c' - 8)] W fun e w' => e = .returned (.int .u64 (beVal ((rest.take 12).drop 8))) ∧ W = w' := fun W hW =>
        numsFromBe _ _ _ _ W (by rw [part_len _ _ _ (by omega)]) (hrr.cut (by omega) (by omega) hrc |>.ext hW) (by rw [part_len _ _ _ (by omega)]; omega)
      have v1 : beVal ((rest.take 4).drop 0) < 4294967296 := by have := beVal_lt ((rest.take 4).drop 0); rw [part_len _ _ _ (by omega)] at this; omega
      have v2 : beVal ((rest.take 8).drop 4) < 4294967296 := by have := beVal_lt ((rest.take 8).drop 4); rw [part_len _ _ _ (by omega)] at this; omega
      have v3 : beVal ((rest.take 12).drop 8) < 4294967296 := by have := beVal_lt ((rest.take 12).drop 8); rw [part_len _ _ _ (by omega)] at this; omega
      have F1 := hide f1
      have F2 := hide f2
      have F3 := hide f3
      have HP := hide hpar
      clear f1 f2 f3 hpar
      obtain ⟨x1, hx1⟩ : ∃ x, x = beVal ((rest.take 4).drop 0) := ⟨_, rfl⟩
      obtain ⟨x2, hx2⟩ : ∃ x, x = beVal ((rest.take 8).drop 4) := ⟨_, rfl⟩
      obtain ⟨x3, hx3⟩ : ∃ x, x = beVal ((rest.take 12).drop 8) := ⟨_, rfl⟩
      rw [← hx1] at F1 v1
      rw [← hx2] at F2 v2
      rw [← hx3] at F3 v3
      have X1 := hide hx1
      have X2 := hide hx2
      have X3 := hide hx3
      clear hx1 hx2 hx3
      have hw1 : IntKind.i64.wrap (x1 : Int) = (x1 : Int) := IntWalk.i64_in _ (by omega)
      have hw2 : IntKind.i64.wrap (x2 : Int) = (x2 : Int) := IntWalk.i64_in _ (by omega)
      gi_wp2
      refine wpIn_wide.2 ?_
      apply wp_meet
      · go_region_held3 (fun w' => w'.cell? ⟨Bn, 0, none⟩ = some (.slice (some ⟨b, o, none⟩) rest.length c')) (first | exact hcell | exact (hb.alloc _).cell) (first | (go_at_call 11; (with_reducible refine (F1.out _ ?_).mono ?_); (first | exact hbel.drew | exact hbel.drew.alloc hbel.size _); rintro e w' ⟨rfl, rfl⟩) | (go_at_call 11; (with_reducible refine (F2.out _ ?_).mono ?_); (first | exact hbel.drew | exact hbel.drew.alloc hbel.size _); rintro e w' ⟨rfl, rfl⟩))
        all_goals exact ⟨rfl, rfl, rfl⟩
      have hcell1 := (hb.alloc (.cells #[.int .i64 (x1 : Int), .int .i64 (x2 : Int), .slice none 0 0] 39)).cell
      gi_wp2
      refine (callsIn_wide.2 (F3.out _ (hbel.alloc hbel.size _).drew)).mono ?_
      rintro e w' ⟨rfl, rfl⟩
      have hw3 : IntKind.i64.wrap (x3 : Int) = (x3 : Int) := IntWalk.i64_in _ (by omega)
      have hf1 := (hb.alloc (.cells #[.int .i64 (x1 : Int), .int .i64 (x2 : Int), .slice none 0 0] 39)).frozen
      by_cases hlong : rest.length - 12 < x3
      · have hlongi : (rest.length : Int) - 12 < (x3 : Int) := by omega
        have hp0 : parse rest.length rest = [none] := by
          obtain ⟨k, hk⟩ : ∃ k, rest.length = k + 1 := ⟨rest.length - 1, by omega⟩
          rw [hk]; simp only [parse]; rw [if_neg hz, if_neg h12, if_pos (by rw [← X3.out]; exact hlong)]
        have hall : (pre ++ [(⟨true, 0, 0, none, 0, []⟩ : HkV)]).map HkV.el = parse l.length l := by rw [← HP.out, hp0, List.map_append]; rfl
        have hj2 : J pre (wr.alloc (.cells #[.int .i64 (x1 : Int), .int .i64 (x2 : Int), .slice none 0 0] 39)).drew := hJ _ _ _ hj ⟨only_drew (only_alloc (World.grownBy.refl _ _) _), ⟨_, hb.alloc _⟩⟩
        obtain ⟨fn, tm, asg, bo, hy, hR⟩ := hY pre ⟨true, 0, 0, none, 0, []⟩ _ hj2 (HkNext.mk (by rw [hall]; exact List.prefix_refl _) (fun h => by cases h))
        have HA := hide hall
        clear hall hp0
        simp only [HkV.vals, if_true] at hy
        gi_wp2
        refine hR.mono ?_
        rintro e W3 (⟨rfl, hJ3, _⟩ | ⟨rfl, hJx3⟩)
        · gi_wp2
          refine bodyPost_ret (results_none rfl _ _ _) rfl ?_
          exact ⟨⟨_, rfl⟩, .inl ⟨_, HA.out, hJ3⟩⟩
        · gi_wp2
          refine bodyPost_ret (results_none rfl _ _ _) rfl ?_
          exact ⟨⟨_, rfl⟩, .inr ⟨_, by rw [HA.out]; exact List.prefix_refl _, hJx3⟩⟩
      · have hlongi : (x3 : Int) ≤ (rest.length : Int) - 12 := by omega
        have hcA : ∀ ob, (wr.alloc ob).cell? ⟨Bn, 0, none⟩ = some (.slice (some ⟨b, o, none⟩) rest.length c') := fun o => (hb.alloc o).cell
        have hfA : ∀ o, (wr.alloc o).frozen? ⟨Bn, 0, none⟩ = false := fun o => (hb.alloc o).frozen
        gi_wp2
        refine wpIn_wide.2 ?_
        apply wp_meet
        · go_region
          all_goals exact ⟨rfl, rfl, rfl⟩
        generalize hAx : cutA (some ⟨b, o, none⟩) c' 12 1 = Ax
        generalize hAy : cutA (some ⟨b, o, none⟩) c' (12 + x3) 1 = Ay
        have HAx := hide hAx
        have HAy := hide hAy
        clear hAx hAy
        have hblk : ∀ u, Blk ((wr.alloc (.cells #[.int .i64 (x1 : Int), .int .i64 (x2 : Int), .slice Ax x3 (c' - 12)] 39)).setCell ⟨Bn, 0, none⟩ u) wr.heap.size 39 #[.int .i64 (x1 : Int), .int .i64 (x2 : Int), .slice Ax x3 (c' - 12)] := fun u =>
          (Blk.new wr _ _).far (by have := hb.lt; simp; omega) u
        have k0 := fun u => (hblk u).cell 0
        have k1 := fun u => (hblk u).cell 1
        have k2 := fun u => (hblk u).cell 2
        simp at k0 k1 k2
        have Hblk := hide hblk
        clear hblk
        have hlenb : ((rest.take (12 + x3)).drop 12).length = x3 := by rw [part_len _ _ _ (by omega)]; omega
        have hpm := parse_more rest h12 x3 X3.out hlong
        have hmap : (pre ++ [(⟨false, x1, x2, Ax, c' - 12, (rest.take (12 + x3)).drop 12⟩ : HkV)]).map HkV.el ++ parse (rest.drop (12 + x3)).length (rest.drop (12 + x3)) = parse l.length l := by
          rw [← HP.out, hpm, List.map_append, List.append_assoc, X1.out, X2.out]; rfl
        have hbox4 : Boxed (((wr.alloc (.cells #[.int .i64 (x1 : Int), .int .i64 (x2 : Int), .slice Ax x3 (c' - 12)] 39)).setCell ⟨Bn, 0, none⟩ (.slice Ay (rest.length - (12 + x3)) (c' - (12 + x3)))).drew.drew) Bn 22 (.slice Ay (rest.length - (12 + x3)) (c' - (12 + x3))) := (hb.alloc _).set _
        have hj4 : J pre (((wr.alloc (.cells #[.int .i64 (x1 : Int), .int .i64 (x2 : Int), .slice Ax x3 (c' - 12)] 39)).setCell ⟨Bn, 0, none⟩ (.slice Ay (rest.length - (12 + x3)) (c' - (12 + x3)))).drew.drew) :=
          hJ _ _ _ hj ⟨only_drew (only_drew (only_set (only_alloc (World.grownBy.refl _ _) _) (.inl rfl) _)), ⟨_, hbox4⟩⟩
        have hb4 : Below w0.heap.size w0 (((wr.alloc (.cells #[.int .i64 (x1 : Int), .int .i64 (x2 : Int), .slice Ax x3 (c' - 12)] 39)).setCell ⟨Bn, 0, none⟩ (.slice Ay (rest.length - (12 + x3)) (c' - (12 + x3)))).drew.drew) :=
          (((hbel.alloc hbel.size _).setCell (p := ⟨Bn, 0, none⟩) hBn _).drew).drew
        have hrx : Rd w0 Ax ((rest.take (12 + x3)).drop 12) := by
          have := hrr.cut (i := 12) (j := 12 + x3) (cap := c') (by omega) (by omega) hrc
          rwa [← HAx.out]
        have hry : Rd w0 Ay (rest.drop (12 + x3)) := by
          have := hrr.cut (i := 12 + x3) (j := rest.length) (cap := c') (by omega) (Nat.le_refl _) hrc
          rwa [List.take_length, HAy.out] at this
        have hAx : ∀ k, ablk Ax = some k → k < w0.heap.size := by
          intro k hk
          refine hA' k ?_
          rw [← hk, ← HAx.out, cutA_blk]
        have hAy : ∀ k, ablk Ay = some k → k < w0.heap.size := by
          intro k hk
          refine hA' k ?_
          rw [← hk, ← HAy.out, cutA_blk]
        obtain ⟨fn, tm, asg, bo, hy, hR⟩ := hY pre ⟨false, x1, x2, Ax, c' - 12, (rest.take (12 + x3)).drop 12⟩ _ hj4
          (HkNext.mk ⟨_, hmap⟩ (fun _ => ⟨hrx, by simp only [hlenb]; omega, v1, v2, by simp only [hlenb]; omega, hAx⟩))
        simp only [HkV.vals, hlenb, Bool.false_eq_true, if_false] at hy
        have HM := hide hmap
        have HL := hide hlenb
        clear hmap hpm hlenb
        gi_wp2
        refine hR.mono ?_
        rintro e W3 (⟨rfl, hJ3, hk3, hBk⟩ | ⟨rfl, hJx3⟩)
        · have hbox5 : Boxed W3 Bn 22 (.slice Ay (rest.length - (12 + x3)) (c' - (12 + x3))) := hBk.trans hbox4
          gi_wp2
          go_roundw
          case rel =>
            refine ⟨_, rest.drop (12 + x3), Ay, c' - (12 + x3), by rw [List.length_drop]; exact hbox5, by rw [List.length_drop]; omega, by omega, hry, by rw [List.length_drop]; omega, hAy, HM.out, hJ3, hb4.trans hk3⟩
          case measure => rw [boxLen_of hbox5, boxLen_of hb]; omega
        · gi_wp2
          refine bodyPost_ret (results_none rfl _ _ _) rfl ?_
          exact ⟨⟨_, rfl⟩, .inr ⟨_, ⟨_, HM.out⟩, hJx3⟩⟩
end Go.Proofs.Ytcnfglnnmmhfiaa
