import Derived.Test.YtgaehhechonegaaGreatDoorQFBld
import Derived.Lib.MakeNoZero
import Derived.Laws.IdiomCopy
import Derived.Laws.EntriesVeiled
import Derived.Test.YtgaehhechonegaaGreatDoorChecked
import Derived.Test.YtgaehhechonegaaGreatDoorQAMS
import Derived.Test.YtgaehhechonegaaGreatDoorQShelf
namespace Go.Proofs.YtgaehhechonegaaGreatDoor
set_option linter.all false
open Go.RowKit
set_option maxHeartbeats 2000000 in
set_option maxRecDepth 1000000 in
theorem bgrow_walk (b n : Nat) (w : World) (hbk : w.heap[b]? = some (.cells #[.pointer (some ⟨b, 0, none⟩), .slice none 0 0] 97 (0, 0))) (hn : n ≤ 281474976710656) :
    Calls Tryz.prog 112 #[.pointer (some ⟨b, 0, none⟩), .int .i64 n] w fun e w' => e = .returned (.tuple #[]) ∧ ∃ (cs : Array Value), cs.size ≤ 9223372036854775807 ∧ w' = ((w.setCell ⟨b, 1, none⟩ (.slice (some ⟨w.heap.size, 0, none⟩) 0 cs.size)).alloc (.cells cs 5)).drew.drew.drew := by
  obtain ⟨cs, hrun, hle, hmax⟩ := Lib.run_makeNoZero (P := Tryz.prog) w.drew #[3] 71 5 Tryz.underlying71 n hn
  have hw : IntKind.i64.wrap (IntKind.i64.wrap 0 + (n : Int)) = n := by
    rw [IntKind.wrap_i64, IntKind.wrap_i64]
    omega
  have hcall : (callFunc 132 #[.int .i64 (IntKind.i64.wrap (IntKind.i64.wrap 0 + (n : Int)))]).run Tryz.prog w.drew = .ok (.value (.slice (some ⟨w.drew.heap.size, 0, none⟩) n cs.size)) (w.drew.drew.drew.alloc (.cells cs 5)) := by
    rw [hw, run_callFunc_extern Tryz.func132 (by kernel_rfl) (by kernel_rfl) (by kernel_rfl) (e := Extern.BytealgMakeNoZero.makeNoZero #[3] #[71]) (by kernel_rfl), hrun]
    rfl
  have hlt : b < w.heap.size := by
    rcases Nat.lt_or_ge b w.heap.size with h' | h'
    · exact h'
    · simp [Array.getElem?_eq_none h'] at hbk
  have c1 : w.drew.cell? ⟨b, 1, none⟩ = some (.slice none 0 0) := by
    have : w.drew.heap[b]? = _ := hbk
    rw [Lib.cell_of_heap this]; rfl
  have c2 : (w.alloc (.cells cs 5)).cell? ⟨b, 1, none⟩ = some (.slice none 0 0) := by
    have : (w.alloc (.cells cs 5)).heap[b]? = _ := (Lib.alloc_old w _ b hlt).trans hbk
    rw [Lib.cell_of_heap this]; rfl
  have f2 : (w.alloc (.cells cs 5)).frozen? ⟨b, 1, none⟩ = false := Lib.frozen_of_heap ((Lib.alloc_old w _ b hlt).trans hbk) 1
  have hcopy : ∀ W : World, (Builtin.copy_ #[71, 71] 3 #[.slice (some ⟨w.heap.size, 0, none⟩) 0 cs.size, .slice none 0 0]).run Tryz.prog W = .ok (goInt 0) W :=
    fun W => run_copy_none W 71 71 3 5 _ _ 0 cs.size 0 0 Tryz.underlying71 (by kernel_rfl) rfl
  clear hw
  have hm : cs.size ≤ 9223372036854775807 := by have := hmax (by unfold maxLen; omega); simpa [maxLen] using this
  have mixed : Tryz.prog.follows Departure.mixedOrders = true := by kernel_rfl
  go_enter Tryz.func112, Tryz.ntmps112
  go_wp2
  go_region_o
  all_goals (go_wp2; go_end0; exact ⟨rfl, cs, hm, rfl⟩)
set_option maxHeartbeats 2000000 in
set_option maxRecDepth 1000000 in
theorem bGrow_walk (b n : Nat) (w w1 : World) (hcc : Calls Tryz.prog 79 #[.pointer (some ⟨b, 0, none⟩)] w fun e w' => e = .returned (.tuple #[]) ∧ w' = w1)
    (hbk1 : w1.heap[b]? = some (.cells #[.pointer (some ⟨b, 0, none⟩), .slice none 0 0] 97 (0, 0))) (hn : n ≤ 281474976710656) :
    Calls Tryz.prog 91 #[.pointer (some ⟨b, 0, none⟩), .int .i64 n] w fun e w' => e = .returned (.tuple #[]) ∧
      (w' = w1.drew ∨ ∃ (cs : Array Value), cs.size ≤ 9223372036854775807 ∧ w' = ((w1.drew.setCell ⟨b, 1, none⟩ (.slice (some ⟨w1.heap.size, 0, none⟩) 0 cs.size)).alloc (.cells cs 5)).drew.drew.drew) := by
  have c1 : w1.cell? ⟨b, 1, none⟩ = some (.slice none 0 0) := by rw [Lib.cell_of_heap hbk1]; rfl
  have c1' : w1.drew.cell? ⟨b, 1, none⟩ = some (.slice none 0 0) := c1
  have hbk2 : w1.drew.heap[b]? = some (.cells #[.pointer (some ⟨b, 0, none⟩), .slice none 0 0] 97 (0, 0)) := hbk1
  have mixed : Tryz.prog.follows Departure.mixedOrders = true := by kernel_rfl
  go_enter Tryz.func91, Tryz.ntmps91
  go_wp2_with (go_at_call 79; refine hcc.mono ?_; rintro e w' ⟨rfl, h0⟩; obtain rfl := h0.symm)
  go_region_o
  all_goals go_wp2_with (go_at_call 112; refine (bgrow_walk b n w1.drew hbk2 hn).mono ?_; rintro e w' ⟨rfl, cs, h1, rfl⟩)
  all_goals first
    | (go_end0; exact ⟨rfl, .inr ⟨cs, h1, rfl⟩⟩)
    | (go_end0; exact ⟨rfl, .inl rfl⟩)
end Go.Proofs.YtgaehhechonegaaGreatDoor
namespace Go.Proofs.YtgaehhechonegaaGreatDoor
set_option linter.all false
open Go.RowKit
def growS : Spec := fun xs hp => match xs, hp with
  | [.ref 0 0 0, .int .i64 n], [.cells T [(1, X), (1, .con (.slice none 0 0))]] => if selfX X = true then some ⟨.tup [], [.cells T [(1, .ref 0 0 0), (1, .own 1 0)], .row 5 1 0 []], T = 97 ∧ 0 ≤ n ∧ n ≤ 140737488355328⟩ else none
  | _, _ => none
theorem grown_heap {F : Nat → Prop} {w0 wA wB w' : World} {S : Nat → Prop} {ρ : Rho} {g c : Nat} {A : Option Addr} (HA : HeapOk F w0 S ρ [.cells 97 [(1, .ref 0 0 0), (1, .con (.slice none 0 0))]] wA)
    (hl : ρ 0 0 = some ⟨some ⟨g, 0, none⟩, 0, 0, 0⟩) (hbel : Below wA.heap.size wA wB) (hrw : Rw wB 5 ⟨A, c, 0, 1⟩ []) (hA : ∀ b, ablk A = some b → wA.heap.size ≤ b ∧ b < wB.heap.size)
    (hg : wB.grownBy w' (some g)) (hb' : w'.heap[g]? = some (.cells #[.pointer (some ⟨g, 0, none⟩), .slice A 0 c] 97 (0, 0))) :
    HeapOk F w0 S (rset ρ 1 0 ⟨A, c, 0, 1⟩) [.cells 97 [(1, .ref 0 0 0), (1, .own 1 0)], .row 5 1 0 []] w' ∧ Ext wA w' S S ρ (rset ρ 1 0 ⟨A, c, 0, 1⟩) := by
  have hn : ∀ v, ρ 1 v = none := fun v => HA.new 1 (Nat.le_refl _) v
  have hloc : ∀ i v L, ρ i v = some L → rset ρ 1 0 ⟨A, c, 0, 1⟩ i v = some L := by
    intro i v L h
    by_cases e : i = 1 ∧ v = 0
    · rw [e.1, hn] at h; cases h
    · rw [rset_ne _ _ _ _ e]; exact h
  obtain ⟨HB, EB⟩ := HA.push (S' := S) (ρ' := rset ρ 1 0 ⟨A, c, 0, 1⟩) (o' := .row 5 1 0 []) hbel (fun _ h => h) (fun _ h => .inl h) hloc (fun i v h => rset_ne _ _ _ _ (fun e => h e.1))
    ⟨⟨A, c, 0, 1⟩, [], rset_self _ _ _ _, rfl, rfl, hrw, rfl, fun b hb hs => by have := (hA b hb).1; have := HA.slt b hs; omega⟩
    (fun v hv => by show rset ρ 1 0 ⟨A, c, 0, 1⟩ 1 v = none; rw [rset_ne _ _ _ _ (fun e => by have h0 : 0 < v := hv; omega)]; exact hn v)
    (fun b hb => (hA b (by simpa [AObj.blk, rset_self] using hb)).1)
  have h00 : rset ρ 1 0 ⟨A, c, 0, 1⟩ 0 0 = some ⟨some ⟨g, 0, none⟩, 0, 0, 0⟩ := by rw [rset_ne _ _ _ _ (by decide)]; exact hl
  have hblk : (AObj.cells 97 [(1, .ref 0 0 0), (1, .con (.slice none 0 0))]).blk (rset ρ 1 0 ⟨A, c, 0, 1⟩) 0 = some g := by simp [AObj.blk, h00, ablk]
  have hob := HB.ob 0 _ rfl
  have hnS : ¬ S g := by
    obtain ⟨g2, us, k1, _, _, k4⟩ := hob
    rw [h00] at k1; injection k1 with k1; injection k1 with k1; injection k1 with k1; injection k1 with k1
    rw [k1]; exact k4
  obtain ⟨HC, EC⟩ := HB.upd (id := 0) (S' := S) (ρ' := rset ρ 1 0 ⟨A, c, 0, 1⟩) (o' := .cells 97 [(1, .ref 0 0 0), (1, .own 1 0)]) rfl (by rw [hblk]; exact hg) (fun _ h => h) (fun _ h => .inl h) (fun _ _ _ h => h) (fun _ _ _ => rfl)
    ⟨g, [.pointer (some ⟨g, 0, none⟩), .slice A 0 c], h00, hb', ⟨[_], [_], rfl, rfl, .ref 0 0 0 g _ h00 rfl, [_], [], rfl, rfl, .own 1 0 ⟨A, c, 0, 1⟩ (rset_self _ _ _ _), rfl⟩, hnS⟩ (fun v hv => HB.vers 0 _ rfl v hv) (fun b hb => .inl (by simpa [AObj.blk] using hb))
  exact ⟨HC, EB.trans EC⟩
theorem grow_ok : FnOk Tryz.prog 91 growS := by
  intro xs0 hp r hs hp' w S ρ args H ha
  unfold growS at hs
  split at hs
  · rename_i n T X
    split at hs
    · rename_i hX
      injection hs with hs; subst hs
      obtain ⟨hT, n0, n1⟩ := hp'
      subst hT
      obtain ⟨v, vs, rfl, hv, hr⟩ := ha.get _ _ rfl
      obtain ⟨u, us0, rfl, hu, hr⟩ := hr.get _ _ rfl
      obtain rfl := hr.none
      rw [hu.int]
      obtain ⟨g, L, h1, h2, rfl⟩ := hv.ref
      obtain ⟨g', us, k1, k2, k3, k4⟩ := H.ob 0 _ rfl
      rw [h1] at k1; injection k1 with k1; subst k1
      injection h2 with h2; injection h2 with h2; subst h2
      obtain ⟨x, y, rfl, c1, c2⟩ := css_two k3
      have hlt : g' < w.heap.size := (Array.getElem?_eq_some_iff.1 k2).1
      have hy : y = .slice none 0 0 := by cases c2; rfl
      subst hy
      obtain ⟨m, rfl⟩ := Int.eq_ofNat_of_zero_le n0
      obtain ⟨s1, s2⟩ := setCells_row g' 97 (0, 0) [.pointer (some ⟨g', 0, none⟩)] 0 w _ k2 (by simp)
      have e1 : w.setCells g' 0 [.pointer (some ⟨g', 0, none⟩)] = w.setCell ⟨g', 0, none⟩ (.pointer (some ⟨g', 0, none⟩)) := rfl
      rw [e1] at s1 s2
      have s1 : (w.setCell ⟨g', 0, none⟩ (.pointer (some ⟨g', 0, none⟩))).heap[g']? = some (.cells #[.pointer (some ⟨g', 0, none⟩), .slice none 0 0] 97 (0, 0)) := by simpa using s1
      have hblk : (AObj.cells 97 [(1, X), (1, .con (.slice none 0 0))]).blk ρ 0 = some g' := by simp [AObj.blk, h1, ablk]
      obtain ⟨HA, EA⟩ := H.upd (id := 0) (S' := S) (ρ' := ρ) (o' := .cells 97 [(1, .ref 0 0 0), (1, .con (.slice none 0 0))]) rfl (by rw [hblk]; exact s2) (fun _ h => h) (fun _ h => .inl h) (fun _ _ _ h => h) (fun _ _ _ => rfl)
        ⟨g', [.pointer (some ⟨g', 0, none⟩), .slice none 0 0], h1, s1, ⟨[_], [_], rfl, rfl, .ref 0 0 0 g' _ h1 rfl, [_], [], rfl, rfl, .con _ rfl, rfl⟩, k4⟩ (fun v hv => H.vers 0 _ rfl v hv) (fun b hb => .inl (by simpa [AObj.blk] using hb))
      have fin : ∀ wA : World, Calls Tryz.prog 79 #[.pointer (some ⟨g', 0, none⟩)] w (fun e w' => e = .returned (.tuple #[]) ∧ w' = wA) →
          wA.heap[g']? = some (.cells #[.pointer (some ⟨g', 0, none⟩), .slice none 0 0] 97 (0, 0)) → wA.heap.size = w.heap.size →
          HeapOk (Lent ρ [.cells 97 [(1, X), (1, .con (.slice none 0 0))]]) w S ρ [.cells 97 [(1, .ref 0 0 0), (1, .con (.slice none 0 0))]] wA → Ext w wA S S ρ ρ →
          Calls Tryz.prog 91 #[.pointer (some ⟨g', 0, none⟩), .int .i64 m] w fun e w' => ∃ v S' ρ', e = .returned v ∧ Vl w' S' ρ' (.tup []) v ∧
            HeapOk (Lent ρ [.cells 97 [(1, X), (1, .con (.slice none 0 0))]]) w S' ρ' [.cells 97 [(1, .ref 0 0 0), (1, .own 1 0)], .row 5 1 0 []] w' ∧ Ext w w' S S' ρ ρ' ∧ (∀ b, S' b → S b ∨ w.heap.size ≤ b ∨ Lent ρ [.cells 97 [(1, X), (1, .con (.slice none 0 0))]] b) := by
        intro wA hcc s1 hsz HA EA
        refine (bGrow_walk g' m w wA hcc s1 (by omega)).mono ?_
        rintro e w' ⟨rfl, rfl | ⟨cs, hm, rfl⟩⟩
        · obtain ⟨HC, EC⟩ := grown_heap (A := none) (c := 0) (wB := wA) (w' := wA) HA h1 (Below.refl _ _) ⟨rfl, .inl ⟨rfl, rfl, rfl⟩⟩ (fun b hb => by cases hb) (World.grownBy.refl wA _) s1
          obtain ⟨HD, ED⟩ := HC.same (S' := S) (w' := wA.drew) (belowN (Below.refl _ wA) 1) (fun _ h => h) (fun _ h => .inl h)
          exact ⟨_, S, _, rfl, ⟨[], rfl, rfl, fun i hi => by simp at hi⟩, HD, (EA.trans EC).trans ED, fun b hb => .inl hb⟩
        · have hgl : g' < wA.heap.size := by omega
          have hal : (wA.alloc (.cells cs 5)).heap[g']? = some (.cells #[.pointer (some ⟨g', 0, none⟩), .slice none 0 0] 97 (0, 0)) := by
            rw [Lib.alloc_old wA _ g' hgl]; exact s1
          obtain ⟨t1, t2⟩ := setCells_row g' 97 (0, 0) [.slice (some ⟨wA.heap.size, 0, none⟩) 0 cs.size] 1 (wA.alloc (.cells cs 5)) _ hal (by simp)
          have e2 : (wA.alloc (.cells cs 5)).setCells g' 1 [.slice (some ⟨wA.heap.size, 0, none⟩) 0 cs.size] = (wA.alloc (.cells cs 5)).setCell ⟨g', 1, none⟩ (.slice (some ⟨wA.heap.size, 0, none⟩) 0 cs.size) := rfl
          rw [e2] at t1 t2
          obtain ⟨HC, EC⟩ := grown_heap (A := some ⟨wA.heap.size, 0, none⟩) (c := cs.size) (wB := wA.alloc (.cells cs 5)) HA h1 ((Below.refl _ _).alloc (Nat.le_refl _) _)
            ⟨rfl, .inr ⟨wA.heap.size, cs, (0, 0), rfl, heap_alloc_new wA _, .inl rfl, Nat.zero_le _, hm, by simp, by simp⟩⟩
            (fun b hb => by injection hb with hb; subst hb; exact ⟨Nat.le_refl _, by show wA.heap.size < (wA.heap.push _).size; rw [Array.size_push]; omega⟩) t2 (by simpa using t1)
          have ew : ((wA.drew.setCell ⟨g', 1, none⟩ (.slice (some ⟨wA.heap.size, 0, none⟩) 0 cs.size)).alloc (.cells cs 5)).drew.drew.drew = ((wA.alloc (.cells cs 5)).setCell ⟨g', 1, none⟩ (.slice (some ⟨wA.heap.size, 0, none⟩) 0 cs.size)).drew.drew.drew.drew := by
            rw [World.setCell_alloc_past (w := wA) _ g' 1 _ hgl]; rfl
          rw [ew]
          obtain ⟨HD, ED⟩ := HC.same (S' := S) ((Below.refl _ _).drew.drew.drew.drew) (fun _ h => h) (fun _ h => .inl h)
          exact ⟨_, S, _, rfl, ⟨[], rfl, rfl, fun i hi => by simp at hi⟩, HD, (EA.trans EC).trans ED, fun b hb => .inl hb⟩
      rcases selfX_or hX with rfl | rfl
      · have hxx : x = .pointer none := by cases c1; rfl
        subst hxx
        exact fin _ (copyCheck_fresh g' w (by simp [World.cell?, k2]) (by simp [World.shape?, k2]) (by simp [World.frozen?, k2])) s1 (by simp [World.setCell]) HA EA
      · have hxx : x = .pointer (some ⟨g', 0, none⟩) := by
          cases c1 with
          | ref _ _ _ g2 L2 q1 q2 =>
          rw [h1] at q1; injection q1 with q1; subst q1
          injection q2 with q2; injection q2 with q2; subst q2
          rfl
        subst hxx
        exact fin w (copyCheck_used g' w (by simp [World.cell?, k2])) k2 rfl H (Ext.refl _ _ _)
    · cases hs
  · cases hs
end Go.Proofs.YtgaehhechonegaaGreatDoor
namespace Go.Proofs.YtgaehhechonegaaGreatDoor
set_option linter.all false
open Go.RowKit
def b_sjoin_0 : ACode := (.seq (.reg none [⟨(some 42), (.bin .lss (.t 41) (.t 40)), none⟩]) (.seq (.cond (.t 42) .skip (.exit 1)) (.seq (.block 2 (.seq (.reg none [⟨(some 43), (.ia 1 (.str []) (.t 39) (.t 41)), none⟩, ⟨(some 44), (.ld (.one (.str [])) (.t 43)), none⟩, ⟨(some 7), (.mv (.t 44)), none⟩]) (.seq (.seq (.reg none [⟨(some 45), (.mv (.t 7)), none⟩, ⟨(some 46), (.len none true (.t 45)), none⟩, ⟨(some 47), (.mv (.t 5)), none⟩, ⟨(some 48), (.bin .sub (.c (.int .i64 9223372036854775807)) (.t 47)), none⟩, ⟨(some 49), (.bin .gtr (.t 46) (.t 48)), none⟩]) (.cond (.t 49) (.reg none [⟨(some 50), (.mkif 9 (.c (.str [115, 116, 114, 105, 110, 103, 115, 58, 32, 74, 111, 105, 110, 32, 111, 117, 116, 112, 117, 116, 32, 108, 101, 110, 103, 116, 104, 32, 111, 118, 101, 114, 102, 108, 111, 119]))), none⟩, ⟨none, .bad, none⟩]) .skip)) (.reg none [⟨(some 51), (.mv (.t 5)), none⟩, ⟨(some 52), (.mv (.t 7)), none⟩, ⟨(some 53), (.len none true (.t 52)), none⟩, ⟨(some 54), (.bin .add (.t 51) (.t 53)), none⟩, ⟨(some 5), (.mv (.t 54)), none⟩])))) (.reg none [⟨(some 55), (.bin .add (.t 41) (.c (.int .i64 1))), none⟩, ⟨(some 41), (.mv (.t 55)), none⟩]))))
def b_sjoin_1 : ACode := (.seq (.reg none [⟨(some 66), (.bin .lss (.t 65) (.t 64)), none⟩]) (.seq (.cond (.t 66) .skip (.exit 3)) (.seq (.block 4 (.seq (.reg none [⟨(some 67), (.ia 1 (.str []) (.t 63) (.t 65)), none⟩, ⟨(some 68), (.ld (.one (.str [])) (.t 67)), none⟩, ⟨(some 10), (.mv (.t 68)), none⟩]) (.seq (.reg none [⟨(some 69), (.mv (.t 1)), none⟩, ⟨(some 70), (.call 50 [(.t 8), (.t 69)]), none⟩]) (.reg none [⟨(some 71), (.mv (.t 10)), none⟩, ⟨(some 72), (.call 50 [(.t 8), (.t 71)]), none⟩])))) (.reg none [⟨(some 73), (.bin .add (.t 65) (.c (.int .i64 1))), none⟩, ⟨(some 65), (.mv (.t 73)), none⟩]))))
def t_sjoin_0 : ACode := (.seq (.reg none [⟨(some 74), (.call 53 [(.t 8)]), none⟩, ⟨(some 4), (.mv (.t 74)), none⟩]) .ret)
def t_sjoin_1 : ACode := (.seq (.reg none [⟨(some 8), (.new 97 [(1, (.con (.pointer none))), (1, (.con (.slice none 0 0)))]), none⟩]) (.seq (.reg none [⟨(some 56), (.mv (.t 5)), none⟩, ⟨(some 57), (.call 91 [(.t 8), (.t 56)]), none⟩]) (.seq (.reg none [⟨(some 58), (.mv (.t 0)), none⟩, ⟨(some 59), (.ia 1 (.str []) (.t 58) (.c (.int .i64 0))), none⟩, ⟨(some 60), (.ld (.one (.str [])) (.t 59)), none⟩, ⟨(some 61), (.call 50 [(.t 8), (.t 60)]), none⟩]) (.seq (.seq (.reg none [⟨(some 62), (.mv (.t 0)), none⟩, ⟨(some 63), (.sl 1 (.t 62) (some (.c (.int .i64 1))) none), none⟩, ⟨(some 64), (.len none false (.t 63)), none⟩, ⟨(some 65), (.mv (.c (.int .i64 0))), none⟩]) (.block 3 (.loop b_sjoin_1))) t_sjoin_0))))
def c_sjoin : ACode := (.seq (.reg none [⟨(some 4), (.mv (.c (.str []))), none⟩]) (.seq (.seq (.reg none [⟨(some 11), (.mv (.t 0)), none⟩, ⟨(some 12), (.len none false (.t 11)), none⟩]) (.block 0 (.seq (.reg none [⟨(some 14), (.bin .eql (.t 12) (.c (.int .i64 0))), none⟩, ⟨(some 13), (.mv (.t 14)), none⟩]) (.cond (.t 13) (.seq (.reg none [⟨(some 4), (.mv (.c (.str []))), none⟩]) .ret) (.seq (.reg none [⟨(some 16), (.bin .eql (.t 12) (.c (.int .i64 1))), none⟩, ⟨(some 15), (.mv (.t 16)), none⟩]) (.cond (.t 15) (.seq (.reg none [⟨(some 17), (.mv (.t 0)), none⟩, ⟨(some 18), (.ia 1 (.str []) (.t 17) (.c (.int .i64 0))), none⟩, ⟨(some 19), (.ld (.one (.str [])) (.t 18)), none⟩, ⟨(some 4), (.mv (.t 19)), none⟩]) .ret) .skip)))))) (.seq (.reg none [⟨(some 5), (.mv (.c (.int .i64 0))), none⟩]) (.seq (.seq (.reg none [⟨(some 20), (.mv (.t 1)), none⟩, ⟨(some 21), (.len none true (.t 20)), none⟩, ⟨(some 22), (.bin .gtr (.t 21) (.c (.int .i64 0))), none⟩]) (.cond (.t 22) (.seq (.seq (.reg none [⟨(some 23), (.mv (.t 1)), none⟩, ⟨(some 24), (.len none true (.t 23)), none⟩, ⟨(some 25), (.mv (.t 0)), none⟩, ⟨(some 26), (.len none false (.t 25)), none⟩, ⟨(some 27), (.bin .sub (.t 26) (.c (.int .i64 1))), none⟩, ⟨(some 28), (.bin .quo (.c (.int .i64 9223372036854775807)) (.t 27)), none⟩, ⟨(some 29), (.bin .geq (.t 24) (.t 28)), none⟩]) (.cond (.t 29) (.reg none [⟨(some 30), (.mkif 9 (.c (.str [115, 116, 114, 105, 110, 103, 115, 58, 32, 74, 111, 105, 110, 32, 111, 117, 116, 112, 117, 116, 32, 108, 101, 110, 103, 116, 104, 32, 111, 118, 101, 114, 102, 108, 111, 119]))), none⟩, ⟨none, .bad, none⟩]) .skip)) (.reg none [⟨(some 31), (.mv (.t 5)), none⟩, ⟨(some 32), (.mv (.t 1)), none⟩, ⟨(some 33), (.len none true (.t 32)), none⟩, ⟨(some 34), (.mv (.t 0)), none⟩, ⟨(some 35), (.len none false (.t 34)), none⟩, ⟨(some 36), (.bin .sub (.t 35) (.c (.int .i64 1))), none⟩, ⟨(some 37), (.bin .mul (.t 33) (.t 36)), none⟩, ⟨(some 38), (.bin .add (.t 31) (.t 37)), none⟩, ⟨(some 5), (.mv (.t 38)), none⟩])) .skip)) (.seq (.seq (.reg none [⟨(some 39), (.mv (.t 0)), none⟩, ⟨(some 40), (.len none false (.t 39)), none⟩, ⟨(some 41), (.mv (.c (.int .i64 0))), none⟩]) (.block 1 (.loop b_sjoin_0))) t_sjoin_1)))))
def r_sjoin : List ARes := [(.t 4)]
theorem s_sjoin : slimF Tryz.prog Tryz.f64 = some (c_sjoin, r_sjoin) := by kernel_rfl
def c_bwb : ACode := (.seq (.reg none [⟨(some 4), (.mv (.c (.con .nilIface))), none⟩]) (.seq (.reg none [⟨(some 5), (.mv (.t 0)), none⟩, ⟨(some 6), (.call 79 [(.t 5)]), none⟩]) (.seq (.reg none [⟨(some 7), (.mv (.t 0)), none⟩, ⟨(some 8), (.mv (.t 0)), none⟩, ⟨(some 9), (.nck (.t 8)), none⟩, ⟨(some 10), (.fa 1 (.t 9)), none⟩, ⟨(some 11), (.ld (.one (.con (.slice none 0 0))) (.t 10)), none⟩, ⟨(some 12), (.mv (.t 1)), none⟩, ⟨(some 13), (.buildSl 5 1 [(.t 12)]), none⟩, ⟨(some 14), (.app 5 1 1 (.t 11) (.t 13)), none⟩, ⟨(some 15), (.nck (.t 7)), none⟩, ⟨(some 16), (.fa 1 (.t 15)), none⟩, ⟨none, (.st (.one (.con (.slice none 0 0))) (.t 16) (.t 14)), none⟩]) (.seq (.reg none [⟨(some 4), (.mv (.c (.con .nilIface))), none⟩]) .ret))))
def r_bwb : List ARes := [(.t 4)]
theorem s_bwb : slimF Tryz.prog Tryz.f80 = some (c_bwb, r_bwb) := by kernel_rfl
def b_gkeyed_0 : ACode := (.seq (.reg none [⟨(some 9), (.bin .lss (.t 8) (.t 7)), none⟩]) (.seq (.cond (.t 9) .skip (.exit 0)) (.seq (.block 1 (.seq (.reg none [⟨(some 10), (.ia 1 (.int .u8 0) (.t 6) (.t 8)), none⟩, ⟨(some 11), (.ld (.one (.int .u8 0)) (.t 10)), none⟩, ⟨(some 4), (.mv (.t 11)), none⟩]) (.seq (.reg none [⟨(some 12), (.mv (.t 4)), none⟩, ⟨(some 13), (.bin .geq (.t 12) (.c (.int .u8 97))), none⟩, ⟨(some 14), (.mv (.t 13)), none⟩, ⟨(some 15), (.mv (.t 4)), (some (14, true))⟩, ⟨(some 16), (.bin .leq (.t 15) (.c (.int .u8 122))), (some (14, true))⟩, ⟨(some 17), (.pick (.t 14) (.t 16) (.c (.bool false))), none⟩, ⟨(some 18), (.mv (.t 17)), none⟩, ⟨(some 19), (.mv (.t 4)), (some (18, false))⟩, ⟨(some 20), (.bin .geq (.t 19) (.c (.int .u8 65))), (some (18, false))⟩, ⟨(some 21), (.mv (.t 20)), (some (18, false))⟩, ⟨(some 22), (.mv (.t 4)), (some (21, true))⟩, ⟨(some 23), (.bin .leq (.t 22) (.c (.int .u8 90))), (some (21, true))⟩, ⟨(some 24), (.pick (.t 21) (.t 23) (.c (.bool false))), (some (18, false))⟩, ⟨(some 25), (.pick (.t 18) (.c (.bool true)) (.t 24)), none⟩, ⟨(some 26), (.mv (.t 25)), none⟩, ⟨(some 27), (.mv (.t 4)), (some (26, false))⟩, ⟨(some 28), (.bin .geq (.t 27) (.c (.int .u8 48))), (some (26, false))⟩, ⟨(some 29), (.mv (.t 28)), (some (26, false))⟩, ⟨(some 30), (.mv (.t 4)), (some (29, true))⟩, ⟨(some 31), (.bin .leq (.t 30) (.c (.int .u8 57))), (some (29, true))⟩, ⟨(some 32), (.pick (.t 29) (.t 31) (.c (.bool false))), (some (26, false))⟩, ⟨(some 33), (.pick (.t 26) (.c (.bool true)) (.t 32)), none⟩, ⟨(some 34), (.mv (.t 33)), none⟩, ⟨(some 35), (.mv (.t 4)), (some (34, false))⟩, ⟨(some 36), (.bin .eql (.t 35) (.c (.int .u8 45))), (some (34, false))⟩, ⟨(some 37), (.pick (.t 34) (.c (.bool true)) (.t 36)), none⟩, ⟨(some 38), (.mv (.t 37)), none⟩, ⟨(some 39), (.mv (.t 4)), (some (38, false))⟩, ⟨(some 40), (.bin .eql (.t 39) (.c (.int .u8 95))), (some (38, false))⟩, ⟨(some 41), (.pick (.t 38) (.c (.bool true)) (.t 40)), none⟩, ⟨(some 42), (.un .not (.t 41)), none⟩]) (.cond (.t 42) (.seq (.reg none [⟨(some 2), (.mv (.c (.bool false))), none⟩]) .ret) .skip)))) (.reg none [⟨(some 43), (.bin .add (.t 8) (.c (.int .i64 1))), none⟩, ⟨(some 8), (.mv (.t 43)), none⟩]))))
def t_gkeyed_0 : ACode := (.seq (.reg none [⟨(some 44), (.mv (.t 0)), none⟩, ⟨(some 45), (.bin .neq (.t 44) (.c (.str []))), none⟩, ⟨(some 46), (.mv (.t 45)), none⟩, ⟨(some 47), (.mv (.t 0)), (some (46, true))⟩, ⟨(some 48), (.len none true (.t 47)), (some (46, true))⟩, ⟨(some 49), (.bin .leq (.t 48) (.c (.int .i64 100))), (some (46, true))⟩, ⟨(some 50), (.pick (.t 46) (.t 49) (.c (.bool false))), none⟩, ⟨(some 2), (.mv (.t 50)), none⟩]) .ret)
def c_gkeyed : ACode := (.seq (.reg none [⟨(some 2), (.mv (.c (.bool false))), none⟩]) (.seq (.seq (.reg none [⟨(some 5), (.mv (.t 0)), none⟩, ⟨(some 6), (.bytes 5 (.t 5)), none⟩, ⟨(some 7), (.len none false (.t 6)), none⟩, ⟨(some 8), (.mv (.c (.int .i64 0))), none⟩]) (.block 0 (.loop b_gkeyed_0))) t_gkeyed_0))
def r_gkeyed : List ARes := [(.t 2)]
theorem s_gkeyed : slimF Tryz.prog Tryz.f87 = some (c_gkeyed, r_gkeyed) := by kernel_rfl
def b_gright_0 : ACode := (.seq (.reg none [⟨(some 11), (.bin .lss (.t 10) (.t 9)), none⟩]) (.seq (.cond (.t 11) .skip (.exit 0)) (.seq (.block 1 (.seq (.reg none [⟨(some 12), (.mv (.t 10)), none⟩, ⟨(some 13), (.ia 2 (.agg [(1, (.str [])), (1, (.str []))]) (.t 8) (.t 10)), none⟩, ⟨(some 14), (.ld (.st 2) (.t 13)), none⟩, ⟨(some 4), (.new 78 [(1, (.str [])), (1, (.str []))]), none⟩, ⟨(some 3), (.mv (.t 12)), none⟩, ⟨none, (.st (.st 2) (.t 4) (.t 14)), none⟩]) (.seq (.reg (some [(0, true), (1, true), (2, true), (3, true), (4, true), (5, true), (6, true), (7, true), (8, false), (9, false), (10, false), (11, false), (12, false), (13, false), (14, false), (15, false), (16, false), (17, true), (18, true), (19, true)]) [⟨(some 15), (.fa 0 (.t 4)), none⟩, ⟨(some 16), (.ld (.one (.str [])) (.t 15)), none⟩, ⟨(some 17), (.call 87 [(.t 16)]), none⟩, ⟨(some 18), (.un .not (.t 17)), none⟩, ⟨(some 19), (.mv (.t 18)), none⟩, ⟨(some 20), (.mv (.t 3)), (some (19, false))⟩, ⟨(some 21), (.bin .gtr (.t 20) (.c (.int .i64 0))), (some (19, false))⟩, ⟨(some 22), (.mv (.t 21)), (some (19, false))⟩, ⟨(some 23), (.fa 23 (.t 1)), (some (22, true))⟩, ⟨(some 24), (.ld (.one (.con (.slice none 0 0))) (.t 23)), (some (22, true))⟩, ⟨(some 25), (.mv (.t 3)), (some (22, true))⟩, ⟨(some 26), (.bin .sub (.t 25) (.c (.int .i64 1))), (some (22, true))⟩, ⟨(some 27), (.ia 2 (.agg [(1, (.str [])), (1, (.str []))]) (.t 24) (.t 26)), (some (22, true))⟩, ⟨(some 28), (.fa 0 (.t 27)), (some (22, true))⟩, ⟨(some 29), (.ld (.one (.str [])) (.t 28)), (some (22, true))⟩, ⟨(some 30), (.fa 0 (.t 4)), (some (22, true))⟩, ⟨(some 31), (.ld (.one (.str [])) (.t 30)), (some (22, true))⟩, ⟨(some 32), (.bin .geq (.t 29) (.t 31)), (some (22, true))⟩, ⟨(some 33), (.pick (.t 22) (.t 32) (.c (.bool false))), (some (19, false))⟩, ⟨(some 34), (.pick (.t 19) (.c (.bool true)) (.t 33)), none⟩]) (.cond (.t 34) (.seq (.reg none [⟨(some 2), (.mv (.c (.bool false))), none⟩]) .ret) .skip)))) (.reg none [⟨(some 35), (.bin .add (.t 10) (.c (.int .i64 1))), none⟩, ⟨(some 10), (.mv (.t 35)), none⟩]))))
def b_gright_1 : ACode := (.seq (.reg none [⟨(some 40), (.bin .lss (.t 39) (.t 38)), none⟩]) (.seq (.cond (.t 40) .skip (.exit 2)) (.seq (.block 3 (.seq (.reg none [⟨(some 41), (.mv (.t 39)), none⟩, ⟨(some 42), (.ia 1 (.str []) (.t 37) (.t 39)), none⟩, ⟨(some 43), (.ld (.one (.str [])) (.t 42)), none⟩, ⟨(some 5), (.mv (.t 41)), none⟩, ⟨(some 6), (.mv (.t 43)), none⟩]) (.seq (.reg none [⟨(some 44), (.mv (.t 6)), none⟩, ⟨(some 45), (.call 88 [(.t 44)]), none⟩, ⟨(some 46), (.un .not (.t 45)), none⟩, ⟨(some 47), (.mv (.t 46)), none⟩, ⟨(some 48), (.mv (.t 5)), (some (47, false))⟩, ⟨(some 49), (.bin .gtr (.t 48) (.c (.int .i64 0))), (some (47, false))⟩, ⟨(some 50), (.mv (.t 49)), (some (47, false))⟩, ⟨(some 51), (.fa 24 (.t 1)), (some (50, true))⟩, ⟨(some 52), (.ld (.one (.con (.slice none 0 0))) (.t 51)), (some (50, true))⟩, ⟨(some 53), (.mv (.t 5)), (some (50, true))⟩, ⟨(some 54), (.bin .sub (.t 53) (.c (.int .i64 1))), (some (50, true))⟩, ⟨(some 55), (.ia 1 (.str []) (.t 52) (.t 54)), (some (50, true))⟩, ⟨(some 56), (.ld (.one (.str [])) (.t 55)), (some (50, true))⟩, ⟨(some 57), (.mv (.t 6)), (some (50, true))⟩, ⟨(some 58), (.bin .geq (.t 56) (.t 57)), (some (50, true))⟩, ⟨(some 59), (.pick (.t 50) (.t 58) (.c (.bool false))), (some (47, false))⟩, ⟨(some 60), (.pick (.t 47) (.c (.bool true)) (.t 59)), none⟩]) (.cond (.t 60) (.seq (.reg none [⟨(some 2), (.mv (.c (.bool false))), none⟩]) .ret) .skip)))) (.reg none [⟨(some 61), (.bin .add (.t 39) (.c (.int .i64 1))), none⟩, ⟨(some 39), (.mv (.t 61)), none⟩]))))
def t_gright_0 : ACode := (.seq (.reg none [⟨(some 62), (.fa 20 (.t 1)), none⟩, ⟨(some 63), (.ld (.one (.str [])) (.t 62)), none⟩, ⟨(some 64), (.bin .neq (.t 63) (.c (.str []))), none⟩, ⟨(some 65), (.mv (.t 64)), none⟩, ⟨(some 66), (.fa 20 (.t 1)), (some (65, true))⟩, ⟨(some 67), (.ld (.one (.str [])) (.t 66)), (some (65, true))⟩, ⟨(some 68), (.call 89 [(.t 67), (.c (.str [10]))]), (some (65, true))⟩, ⟨(some 69), (.un .not (.t 68)), (some (65, true))⟩, ⟨(some 70), (.pick (.t 65) (.t 69) (.c (.bool false))), none⟩, ⟨(some 71), (.mv (.t 70)), none⟩, ⟨(some 72), (.fa 21 (.t 1)), (some (71, true))⟩, ⟨(some 73), (.ld (.one (.int .i64 0)) (.t 72)), (some (71, true))⟩, ⟨(some 74), (.bin .geq (.t 73) (.c (.int .i64 0))), (some (71, true))⟩, ⟨(some 75), (.pick (.t 71) (.t 74) (.c (.bool false))), none⟩, ⟨(some 76), (.mv (.t 75)), none⟩, ⟨(some 77), (.fa 21 (.t 1)), (some (76, true))⟩, ⟨(some 78), (.ld (.one (.int .i64 0)) (.t 77)), (some (76, true))⟩, ⟨(some 79), (.bin .lss (.t 78) (.c (.int .i64 4611686018427387904))), (some (76, true))⟩, ⟨(some 80), (.pick (.t 76) (.t 79) (.c (.bool false))), none⟩, ⟨(some 81), (.mv (.t 80)), none⟩, ⟨(some 82), (.fa 22 (.t 1)), (some (81, true))⟩, ⟨(some 83), (.ld (.one (.int .i64 0)) (.t 82)), (some (81, true))⟩, ⟨(some 84), (.bin .geq (.t 83) (.c (.int .i64 (-86399)))), (some (81, true))⟩, ⟨(some 85), (.pick (.t 81) (.t 84) (.c (.bool false))), none⟩, ⟨(some 86), (.mv (.t 85)), none⟩, ⟨(some 87), (.fa 22 (.t 1)), (some (86, true))⟩, ⟨(some 88), (.ld (.one (.int .i64 0)) (.t 87)), (some (86, true))⟩, ⟨(some 89), (.bin .leq (.t 88) (.c (.int .i64 86399))), (some (86, true))⟩, ⟨(some 90), (.pick (.t 86) (.t 89) (.c (.bool false))), none⟩, ⟨(some 2), (.mv (.t 90)), none⟩]) .ret)
def t_gright_1 : ACode := (.seq (.seq (.reg none [⟨(some 36), (.fa 24 (.t 1)), none⟩, ⟨(some 37), (.ld (.one (.con (.slice none 0 0))) (.t 36)), none⟩, ⟨(some 38), (.len none false (.t 37)), none⟩, ⟨(some 39), (.mv (.c (.int .i64 0))), none⟩]) (.block 2 (.loop b_gright_1))) t_gright_0)
def c_gright : ACode := (.seq (.reg none [⟨(some 1), (.box 40 26 (.t 0)), none⟩, ⟨(some 2), (.mv (.c (.bool false))), none⟩]) (.seq (.seq (.reg none [⟨(some 7), (.fa 23 (.t 1)), none⟩, ⟨(some 8), (.ld (.one (.con (.slice none 0 0))) (.t 7)), none⟩, ⟨(some 9), (.len none false (.t 8)), none⟩, ⟨(some 10), (.mv (.c (.int .i64 0))), none⟩]) (.block 0 (.loop b_gright_0))) t_gright_1))
def r_gright : List ARes := [(.t 2)]
theorem s_gright : slimF Tryz.prog Tryz.f61 = some (c_gright, r_gright) := by kernel_rfl
def b_gtold_0 : ACode := (.seq (.reg none [⟨(some 10), (.bin .lss (.t 9) (.t 8)), none⟩]) (.seq (.cond (.t 10) .skip (.exit 0)) (.seq (.block 1 (.seq (.reg none [⟨(some 11), (.ia 1 (.int .u8 0) (.t 7) (.t 9)), none⟩, ⟨(some 12), (.ld (.one (.int .u8 0)) (.t 11)), none⟩, ⟨(some 5), (.mv (.t 12)), none⟩]) (.seq (.reg none [⟨(some 13), (.mv (.t 5)), none⟩]) (.block 2 (.seq (.reg none [⟨(some 17), (.bin .eql (.t 13) (.c (.int .u8 92))), none⟩, ⟨(some 16), (.mv (.t 17)), none⟩]) (.cond (.t 16) (.reg none [⟨(some 18), (.call 50 [(.t 3), (.c (.str [92, 92]))]), none⟩]) (.seq (.reg none [⟨(some 20), (.bin .eql (.t 13) (.c (.int .u8 10))), none⟩, ⟨(some 19), (.mv (.t 20)), none⟩]) (.cond (.t 19) (.reg none [⟨(some 21), (.call 50 [(.t 3), (.c (.str [92, 110]))]), none⟩]) (.seq (.reg none [⟨(some 23), (.bin .eql (.t 13) (.c (.int .u8 13))), none⟩, ⟨(some 22), (.mv (.t 23)), none⟩]) (.cond (.t 22) (.reg none [⟨(some 24), (.call 50 [(.t 3), (.c (.str [92, 114]))]), none⟩]) (.seq (.reg none [⟨(some 26), (.bin .eql (.t 13) (.c (.int .u8 0))), none⟩, ⟨(some 25), (.mv (.t 26)), none⟩]) (.cond (.t 25) (.reg none [⟨(some 27), (.call 50 [(.t 3), (.c (.str [92, 48]))]), none⟩]) (.reg none [⟨(some 14), (.mv (.t 5)), none⟩, ⟨(some 15), (.call 80 [(.t 3), (.t 14)]), none⟩]))))))))))))) (.reg none [⟨(some 28), (.bin .add (.t 9) (.c (.int .i64 1))), none⟩, ⟨(some 9), (.mv (.t 28)), none⟩]))))
def t_gtold_0 : ACode := (.seq (.reg none [⟨(some 29), (.call 53 [(.t 3)]), none⟩, ⟨(some 2), (.mv (.t 29)), none⟩]) .ret)
def c_gtold : ACode := (.seq (.reg none [⟨(some 2), (.mv (.c (.str []))), none⟩]) (.seq (.reg none [⟨(some 3), (.new 97 [(1, (.con (.pointer none))), (1, (.con (.slice none 0 0)))]), none⟩]) (.seq (.seq (.reg none [⟨(some 6), (.mv (.t 0)), none⟩, ⟨(some 7), (.bytes 5 (.t 6)), none⟩, ⟨(some 8), (.len none false (.t 7)), none⟩, ⟨(some 9), (.mv (.c (.int .i64 0))), none⟩]) (.block 0 (.loop b_gtold_0))) t_gtold_0)))
def r_gtold : List ARes := [(.t 2)]
theorem s_gtold : slimF Tryz.prog Tryz.f63 = some (c_gtold, r_gtold) := by kernel_rfl
def b_gprn_0 : ACode := (.seq (.reg none [⟨(some 24), (.bin .lss (.t 23) (.t 22)), none⟩]) (.seq (.cond (.t 24) .skip (.exit 0)) (.seq (.block 1 (.seq (.reg none [⟨(some 25), (.mv (.t 23)), none⟩, ⟨(some 26), (.ia 2 (.agg [(1, (.str [])), (1, (.str []))]) (.t 21) (.t 23)), none⟩, ⟨(some 27), (.ld (.st 2) (.t 26)), none⟩, ⟨(some 6), (.new 78 [(1, (.str [])), (1, (.str []))]), none⟩, ⟨(some 5), (.mv (.t 25)), none⟩, ⟨none, (.st (.st 2) (.t 6) (.t 27)), none⟩]) (.seq (.reg none [⟨(some 7), (.mv (.c (.str [0]))), none⟩]) (.seq (.seq (.reg none [⟨(some 28), (.mv (.t 5)), none⟩, ⟨(some 29), (.bin .eql (.t 28) (.c (.int .i64 0))), none⟩]) (.cond (.t 29) (.reg none [⟨(some 7), (.mv (.c (.str [32]))), none⟩]) .skip)) (.reg (some [(0, false), (1, false), (2, false), (3, false), (4, false), (5, false), (6, false), (7, false), (8, false), (9, false), (10, true), (11, true)]) [⟨(some 30), (.mv (.t 4)), none⟩, ⟨(some 31), (.mv (.t 7)), none⟩, ⟨(some 32), (.fa 0 (.t 6)), none⟩, ⟨(some 33), (.ld (.one (.str [])) (.t 32)), none⟩, ⟨(some 34), (.bin .add (.t 31) (.t 33)), none⟩, ⟨(some 35), (.bin .add (.t 34) (.c (.str [58]))), none⟩, ⟨(some 36), (.fa 1 (.t 6)), none⟩, ⟨(some 37), (.ld (.one (.str [])) (.t 36)), none⟩, ⟨(some 38), (.call 63 [(.t 37)]), none⟩, ⟨(some 39), (.bin .add (.t 35) (.t 38)), none⟩, ⟨(some 40), (.bin .add (.t 30) (.t 39)), none⟩, ⟨(some 4), (.mv (.t 40)), none⟩]))))) (.reg none [⟨(some 41), (.bin .add (.t 23) (.c (.int .i64 1))), none⟩, ⟨(some 23), (.mv (.t 41)), none⟩]))))
def t_gprn_0 : ACode := (.seq (.reg (some [(0, false), (1, false), (2, false), (2, false), (2, false), (2, false), (6, false), (2, false), (2, false), (9, true), (10, true)]) [⟨(some 42), (.fa 0 (.t 1)), none⟩, ⟨(some 43), (.ld (.arr 20) (.t 42)), none⟩, ⟨(some 44), (.call 51 [(.t 43)]), none⟩, ⟨(some 45), (.fa 20 (.t 1)), none⟩, ⟨(some 46), (.ld (.one (.str [])) (.t 45)), none⟩, ⟨(some 47), (.mv (.t 4)), none⟩, ⟨(some 48), (.buildSl 9 1 [(.t 44), (.t 46), (.t 47)]), none⟩, ⟨(some 49), (.fa 24 (.t 1)), none⟩, ⟨(some 50), (.ld (.one (.con (.slice none 0 0))) (.t 49)), none⟩, ⟨(some 51), (.app 9 1 16 (.t 48) (.t 50)), none⟩, ⟨(some 8), (.mv (.t 51)), none⟩]) (.seq (.reg none [⟨(some 52), (.mv (.t 8)), none⟩, ⟨(some 53), (.fa 25 (.t 1)), none⟩, ⟨(some 54), (.ld (.one (.str [])) (.t 53)), none⟩, ⟨(some 55), (.buildSl 9 1 [(.c (.str [])), (.t 54)]), none⟩, ⟨(some 56), (.app 9 1 16 (.t 52) (.t 55)), none⟩, ⟨(some 57), (.call 64 [(.t 56), (.c (.str [10]))]), none⟩, ⟨(some 58), (.bytes 5 (.t 57)), none⟩, ⟨(some 2), (.mv (.t 58)), none⟩, ⟨(some 3), (.mv (.c (.int .i64 0))), none⟩]) .ret))
def c_gprn : ACode := (.seq (.reg none [⟨(some 1), (.box 40 26 (.t 0)), none⟩, ⟨(some 2), (.mv (.c (.con (.slice none 0 0)))), none⟩, ⟨(some 3), (.mv (.c (.int .i64 0))), none⟩]) (.seq (.seq (.reg none [⟨(some 9), (.ld (.st 26) (.t 1)), none⟩, ⟨(some 10), (.call 61 [(.t 9)]), none⟩, ⟨(some 11), (.un .not (.t 10)), none⟩]) (.cond (.t 11) (.seq (.reg none [⟨(some 2), (.mv (.c (.con (.slice none 0 0)))), none⟩, ⟨(some 3), (.mv (.c (.int .i64 4))), none⟩]) .ret) .skip)) (.seq (.reg (some [(0, false), (1, false), (2, false), (3, false), (2, false), (2, false), (6, false), (7, true), (8, true)]) [⟨(some 12), (.fa 21 (.t 1)), none⟩, ⟨(some 13), (.ld (.one (.int .i64 0)) (.t 12)), none⟩, ⟨(some 14), (.call 62 [(.t 13)]), none⟩, ⟨(some 15), (.bin .add (.t 14) (.c (.str [32]))), none⟩, ⟨(some 16), (.fa 22 (.t 1)), none⟩, ⟨(some 17), (.ld (.one (.int .i64 0)) (.t 16)), none⟩, ⟨(some 18), (.call 62 [(.t 17)]), none⟩, ⟨(some 19), (.bin .add (.t 15) (.t 18)), none⟩, ⟨(some 4), (.mv (.t 19)), none⟩]) (.seq (.seq (.reg none [⟨(some 20), (.fa 23 (.t 1)), none⟩, ⟨(some 21), (.ld (.one (.con (.slice none 0 0))) (.t 20)), none⟩, ⟨(some 22), (.len none false (.t 21)), none⟩, ⟨(some 23), (.mv (.c (.int .i64 0))), none⟩]) (.block 0 (.loop b_gprn_0))) t_gprn_0))))
def r_gprn : List ARes := [(.t 2), (.t 3)]
theorem s_gprn : slimF Tryz.prog Tryz.f36 = some (c_gprn, r_gprn) := by kernel_rfl
end Go.Proofs.YtgaehhechonegaaGreatDoor
namespace Go.Proofs.YtgaehhechonegaaGreatDoor
set_option linter.all false
open Go.RowKit
def bwbS : Spec := fun xs hp => match xs, hp with
  | [.ref 0 0 0, .int .u8 c], [.cells T [(1, X), (1, .own 1 v)], .row e 1 v' bs] => if selfX X = true ∧ v = v' ∧ e = 5 then some ⟨.con .nilIface, [.cells T [(1, .ref 0 0 0), (1, .own 1 (v + 1))], .row 5 1 (v + 1) (bs ++ [.int .u8 c])], T = 97 ∧ bytesOk (bs.length + 1)⟩ else none
  | _, _ => none
theorem bwb_ok : FnOk Tryz.prog 80 bwbS := by
  refine fn_slim2 Tryz.func80 s_bwb (Φ := phiL [(79, [], copyCheckS)]) (phi_cons copyCheckA_ok (by kernel_rfl) phi_nil) ?_
  intro xs hp r hs hp'
  unfold bwbS at hs
  split at hs
  · rename_i c T X v e v' bs
    split at hs
    · rename_i hX
      obtain ⟨hX, rfl, rfl⟩ := hX
      injection hs with hs; subst hs
      obtain ⟨rfl, p2⟩ := hp'
      refine ⟨len_le (by kernel_rfl), ?_⟩
      unfold bytesOk at p2
      have hlen : (bs ++ [AV.int .u8 c]).length = bs.length + 1 := by simp
      rcases selfX_or hX with rfl | rfl
      · simp only [c_bwb, r_bwb, copyCheckS, hX, go_sem, Nat.reduceDiv, Nat.reduceMod, ↓reduceIte, Nat.reduceBEq, Nat.reduceSub, Nat.reduceLT, Nat.reduceAdd, reduceCtorEq]
        refine ⟨by rw [hlen]; (first | omega | (simp only [lenOk]; omega)), by rw [hlen]; (first | omega | (simp only [bytesOk]; omega))⟩
      · simp only [c_bwb, r_bwb, copyCheckS, hX, go_sem, Nat.reduceDiv, Nat.reduceMod, ↓reduceIte, Nat.reduceBEq, Nat.reduceSub, Nat.reduceLT, Nat.reduceAdd, reduceCtorEq]
        refine ⟨by rw [hlen]; (first | omega | (simp only [lenOk]; omega)), by rw [hlen]; (first | omega | (simp only [bytesOk]; omega))⟩
    · cases hs
  · cases hs
def joinW (sep : List UInt8) : List (List UInt8) → List UInt8
  | [] => []
  | x :: xs => x ++ xs.flatMap (sep ++ ·)
def sumL (xs : List (List UInt8)) : Nat := (xs.map List.length).sum
def joinS : Spec := fun xs hp => match xs, hp with
  | [.sl kq ps, .str sep], [] => some ⟨.str (joinW sep (ps.map unS)), [], ps = (ps.map unS).map AV.str ∧ (kq = 1 ∨ ps = []) ∧ ps.length ≤ 1000000 ∧ sep.length ≤ 1000000 ∧ sumL (ps.map unS) ≤ 1000000000⟩
  | _, _ => none
theorem sum_take (xs : List (List UInt8)) {i : Nat} (h : i < xs.length) : sumL (xs.take (i + 1)) = sumL (xs.take i) + xs[i].length := by
  unfold sumL
  rw [List.take_add_one, List.getElem?_eq_getElem h, Option.toList_some, List.map_append, List.sum_append]; simp
theorem sum_take_le (xs : List (List UInt8)) (i : Nat) : sumL (xs.take i) ≤ sumL xs := by
  conv => rhs; rw [← List.take_append_drop i xs]
  unfold sumL
  rw [List.map_append, List.sum_append]; omega
theorem flat_sep_len (sep : List UInt8) (xs : List (List UInt8)) : (xs.flatMap (sep ++ ·)).length = sep.length * xs.length + sumL xs := by
  induction xs with
  | nil => simp [sumL]
  | cons x xs ih =>
    rw [List.flatMap_cons, List.length_append, ih, List.length_append, List.length_cons, Nat.mul_add]
    simp only [sumL, List.map_cons, List.sum_cons]; omega
theorem quo_big {k : Nat} (h0 : 0 < k) (h1 : k ≤ 1000000) : (9000000000000 : Int) ≤ (9223372036854775807 : Int).tdiv (k : Int) := by
  rw [Int.tdiv_eq_ediv_of_nonneg (by decide)]
  exact Int.le_ediv_of_mul_le (by omega) (by omega)
def phiJ : Phi := phiL [(91, [], growS), (50, [], bwsS), (53, [], bstrS)]
theorem phiJ_ok : PhiOk Tryz.prog phiJ := phi_cons grow_ok (by kernel_rfl) (phi_cons bws_ok (by kernel_rfl) (phi_cons bstr_ok (by kernel_rfl) phi_nil))
theorem phiJ_1 : phiJ 91 = some ([], growS) := rfl
theorem phiJ_2 : phiJ 50 = some ([], bwsS) := rfl
theorem phiJ_3 : phiJ 53 = some ([], bstrS) := rfl
set_option maxHeartbeats 2000000 in
theorem join_core {sep x : List UInt8} {ys : List (List UInt8)} (n0 : Int) (h0 : 0 ≤ n0) (h1 : n0 ≤ 1000000000000) (hl : (x :: ys).length ≤ 1000000) (hsp : sep.length ≤ 1000000) (hsm : sumL (x :: ys) ≤ 1000000000) (pr : Prop) (s0 : S2)
    (hk : ent [] [0, 1, 5, 39, 40, 41] [] (toS s0) = some ⟨[(0, .sl 1 ((x :: ys).map AV.str)), (1, .str sep), (5, .int .i64 n0), (39, .sl 1 ((x :: ys).map AV.str)), (40, .int .i64 ((x :: ys).length : Int)), (41, .int .i64 ((0 : Nat) : Int))], []⟩) :
    loopQ2 0 (awp2 phiJ 0 b_sjoin_0) (inQ2 1 (thenQ2 (awp2 phiJ 0 t_sjoin_1 (retQ2 r_sjoin 0 ⟨.str (joinW sep (x :: ys)), [], pr⟩)) (retQ2 r_sjoin 0 ⟨.str (joinW sep (x :: ys)), [], pr⟩))) s0 := by
  have hjw : joinW sep (x :: ys) = x ++ ys.flatMap (sep ++ ·) := rfl
  have hsx : sumL (x :: ys) = x.length + sumL ys := by simp [sumL]
  have hyl : (x :: ys).length = ys.length + 1 := rfl
  have hd1 : (((x :: ys).map AV.str).take (x :: ys).length).drop 1 = ys.map AV.str := by rw [List.take_of_length_le (by simp)]; rfl
  have hg0 : ((x :: ys).map AV.str).getD 0 (AV.str []) = AV.str x := rfl
  have hml : ((x :: ys).map AV.str).length = (x :: ys).length := List.length_map ..
  generalize hzs : x :: ys = zs at *
  refine loop2P [] [0, 1, 5, 39, 40, 41] [] (fun q : Nat × Int => ⟨[(0, .sl 1 (zs.map AV.str)), (1, .str sep), (5, .int .i64 q.2), (39, .sl 1 (zs.map AV.str)), (40, .int .i64 (zs.length : Int)), (41, .int .i64 (q.1 : Int))], []⟩)
    (fun q => q.1 ≤ zs.length ∧ 0 ≤ q.2 ∧ q.2 ≤ 1000000000000 + (sumL (zs.take q.1) : Int)) (fun q => zs.length - q.1) (0, n0) hk ⟨Nat.zero_le _, h0, by simp only [List.take_zero, sumL, List.map_nil, List.sum_nil]; omega⟩ ⟨rfl, by rfl⟩ (fun q hq R hR => ?_)
  obtain ⟨i, n⟩ := q
  simp only at hq hR ⊢
  obtain ⟨i1, i2, i3⟩ := hq
  have hst := sum_take_le zs i
  by_cases hil : i < zs.length
  · have c1 : decide ((i : Int) < (zs.length : Int)) = true := decide_eq_true (by omega)
    have hget := getD_map AV.str zs [] (AV.str []) hil
    have hga : zs.getD i [] = zs[i] := by simp [List.getD_eq_getElem?_getD, List.getElem?_eq_getElem hil]
    have hsk := sum_take zs hil
    have hsl := sum_take_le zs (i + 1)
    have c2 : decide ((9223372036854775807 : Int) - n < (zs[i].length : Int)) = false := decide_eq_false (by omega)
    simp only [b_sjoin_0, c1, c2, hget, hga, Int.toNat_natCast, hml, go_sem, Nat.reduceDiv, Nat.reduceMod, ↓reduceIte]
    refine ⟨⟨by omega, by omega⟩, ⟨by omega, by omega⟩, ⟨by omega, by omega⟩, ⟨by omega, by omega⟩, hR _ (i + 1, n + (zs[i].length : Int)) ⟨hil, by simp only; omega, by simp only; omega⟩ (by simp only; omega) rfl⟩
  · have c1 : decide ((i : Int) < (zs.length : Int)) = false := decide_eq_false (by omega)
    have hX0 : selfX (.con (.pointer none)) = true := rfl
    have hX1 : selfX (.ref 0 0 0) = true := rfl
    have hz0 : 0 < zs.length := by omega
    simp only [b_sjoin_0, t_sjoin_1, c1, phiJ_1, phiJ_2, growS, bwsS, hX0, hX1, hg0, hd1, hml, go_sem, Nat.reduceDiv, Nat.reduceMod, ↓reduceIte, Nat.reduceBEq, Nat.reduceSub, Nat.reduceLT, Nat.reduceAdd, Nat.reduceLeDiff, reduceCtorEq, Int.reduceLE, Int.reduceToNat]
    have hfl := flat_sep_len sep ys
    have hsy : sep.length * ys.length ≤ 1000000 * 1000000 := Nat.mul_le_mul hsp (by omega)
    refine ⟨⟨by omega, by omega⟩, by omega, by (first | omega | (simp only [bytesOk]; omega)), ⟨by omega, by omega⟩, ?_⟩
    clear hR R
    refine loop2P [] [1, 8, 63, 64, 65] [0, 1] (fun j : Nat => ⟨[(1, .str sep), (8, .ref 0 0 0), (63, .sl 1 (ys.map AV.str)), (64, .int .i64 (ys.length : Int)), (65, .int .i64 (j : Int))], [.cells 97 [(1, .ref 0 0 0), (1, .own 1 (1 + 2 * j))], .row 5 1 (1 + 2 * j) (Bs (x ++ (ys.take j).flatMap (sep ++ ·)))]⟩)
      (fun j => j ≤ ys.length) (fun j => ys.length - j) 0 ?_ (Nat.zero_le _) ⟨rfl, by rfl⟩ (fun j hj R hR => ?_)
    · simp only [List.take_zero, List.flatMap_nil, List.append_nil]
      rfl
    by_cases hjl : j < ys.length
    · have d1 : decide ((j : Int) < (ys.length : Int)) = true := decide_eq_true (by omega)
      have hgetj := getD_map AV.str ys [] (AV.str []) hjl
      have hgaj : ys.getD j [] = ys[j] := by simp [List.getD_eq_getElem?_getD, List.getElem?_eq_getElem hjl]
      have hlt := flatMap_take_le (sep ++ ·) ys (j + 1)
      have hft := flatMap_take (sep ++ ·) ys hjl
      rw [← hft] at hlt
      simp only [List.length_append] at hlt
      simp only [b_sjoin_1, d1, phiJ_2, bwsS, hX1, hgetj, hgaj, Int.toNat_natCast, List.length_map, Bs_app, go_sem, Nat.reduceDiv, Nat.reduceMod, ↓reduceIte, Nat.reduceBEq, Nat.reduceLT, Nat.reduceAdd, reduceCtorEq]
      refine ⟨⟨by omega, by omega⟩, by simp only [bytesOk, List.length_append]; omega, by simp only [bytesOk, List.length_append]; omega, ⟨by omega, by omega⟩, hR _ (j + 1) hjl (by omega) ?_⟩
      have e : x ++ (ys.take (j + 1)).flatMap (sep ++ ·) = x ++ (ys.take j).flatMap (sep ++ ·) ++ sep ++ ys[j] := by rw [← hft]; simp
      rw [e]
      rfl
    · have d1 : decide ((j : Int) < (ys.length : Int)) = false := decide_eq_false (by omega)
      obtain rfl : j = ys.length := by omega
      rw [List.take_length, ← hjw]
      simp only [b_sjoin_1, t_sjoin_0, r_sjoin, d1, phiJ_3, bstrS, unB_Bs, go_sem, Nat.reduceDiv, Nat.reduceMod, ↓reduceIte, Nat.reduceBEq, Nat.reduceLT, Nat.reduceAdd, reduceCtorEq]
set_option maxHeartbeats 2000000 in
theorem join_ok : FnOk Tryz.prog 64 joinS := by
  refine fn_slim2 Tryz.func64 s_sjoin phiJ_ok ?_
  intro xs hp r hs hp'
  unfold joinS at hs
  split at hs
  · injection hs with hs; subst hs
    rename_i kq ps sep
    obtain ⟨p1, p2, p3, p4, p5⟩ := hp'
    generalize ps.map unS = ps at *
    subst p1
    rw [List.length_map] at p3
    refine ⟨len_le (by kernel_rfl), ?_⟩
    match ps, p2, p3, p5 with
    | [], _, _, _ =>
      simp only [c_sjoin, r_sjoin, joinW, go_sem, Nat.reduceDiv, Nat.reduceMod, ↓reduceIte, Nat.reduceAdd, Nat.reduceLeDiff]
    | [x], p2, _, _ =>
      have hk : kq = 1 := p2.resolve_right (by simp)
      subst hk
      simp only [c_sjoin, r_sjoin, joinW, List.flatMap_nil, List.append_nil, go_sem, Nat.reduceDiv, Nat.reduceMod, ↓reduceIte, Nat.reduceAdd, Nat.reduceLeDiff, reduceCtorEq, Int.reduceEq, Int.reduceLT, Int.reduceLE, Int.reduceToNat]
    | x :: y :: rest, p2, p3, p5 =>
      have hk : kq = 1 := p2.resolve_right (by simp)
      subst hk
      clear p2
      have hcore := fun n0 h0 h1 => join_core (sep := sep) (x := x) (ys := y :: rest) n0 h0 h1 p3 p4 p5
      have hpos : 2 ≤ (x :: y :: rest).length := by simp
      generalize x :: y :: rest = zs at *
      have d0 : decide ((zs.length : Int) = 0) = false := decide_eq_false (by omega)
      have d1 : decide ((zs.length : Int) = 1) = false := decide_eq_false (by omega)
      have hq := quo_big (k := zs.length - 1) (by omega) (by omega)
      have hq : (9000000000000 : Int) ≤ (9223372036854775807 : Int).tdiv ((zs.length : Int) - 1) := by rwa [show ((zs.length - 1 : Nat) : Int) = (zs.length : Int) - 1 by omega] at hq
      have hq2 : (9223372036854775807 : Int).tdiv ((zs.length : Int) - 1) ≤ 9223372036854775807 := by
        rw [Int.tdiv_eq_ediv_of_nonneg (by decide)]
        exact Int.ediv_le_self _ (by decide)
      have d3 : decide ((9223372036854775807 : Int).tdiv ((zs.length : Int) - 1) ≤ (sep.length : Int)) = false := decide_eq_false (by omega)
      have hmul : 0 ≤ (sep.length : Int) * ((zs.length : Int) - 1) ∧ (sep.length : Int) * ((zs.length : Int) - 1) ≤ 1000000000000 := by
        have h1 : sep.length * (zs.length - 1) ≤ 1000000 * 1000000 := Nat.mul_le_mul p4 (by omega)
        have h2 : (sep.length : Int) * ((zs.length : Int) - 1) = ((sep.length * (zs.length - 1) : Nat) : Int) := by
          rw [Int.natCast_mul, show ((zs.length - 1 : Nat) : Int) = (zs.length : Int) - 1 by omega]
        omega
      obtain ⟨hm0, hm1⟩ := hmul
      cases h2 : decide (0 < (sep.length : Int)) with
      | false =>
        simp only [c_sjoin, d0, d1, h2, List.length_map, go_sem, Nat.reduceDiv, Nat.reduceMod, ↓reduceIte, Nat.reduceAdd]
        exact hcore 0 (by omega) (by omega) _ _ (by rfl)
      | true =>
        simp only [c_sjoin, d0, d1, d3, h2, List.length_map, go_sem, Nat.reduceDiv, Nat.reduceMod, ↓reduceIte, Nat.reduceAdd]
        generalize (9223372036854775807 : Int).tdiv ((zs.length : Int) - 1) = Q at *
        generalize (sep.length : Int) * ((zs.length : Int) - 1) = M at *
        exact ⟨⟨by omega, by omega⟩, ⟨by omega, by omega, by omega⟩, ⟨by omega, by omega⟩, ⟨by omega, by omega⟩, ⟨by omega, by omega⟩, hcore (0 + M) (by omega) (by omega) _ _ (by rfl)⟩
  · cases hs
end Go.Proofs.YtgaehhechonegaaGreatDoor
