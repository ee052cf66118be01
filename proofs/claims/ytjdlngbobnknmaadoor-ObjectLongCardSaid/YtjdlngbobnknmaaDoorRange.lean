/- A range over a function whose iterator keeps a variable of its own in memory: the iterator names the steps that it makes between two rounds ('Step'), the caller's invariant abides them. Over any program; no condition. -/
import Derived.RangeFuncNested
import Derived.RangeFuncLeaves
import Derived.RangeFuncBound
import Derived.OrdersIn
import Derived.TacticsIn
import Derived.Test.YtjdlngbobnknmaaDoorHeld
namespace Go.Proofs.YtjdlngbobnknmaaDoor
set_option linter.all false
open Go.RowKit

variable {F : Fence} {n : Nat} {P : Program}

/-- The contract of an iterator: 'Step': what it does to memory between two rounds; 'Kp': what a round that goes on keeps; 'Nx': what is known of the next element; 'S': all that have come; 'Sp': what has come where a round said no more. -/
def SeqT {α : Type} (F : Fence) (n : Nat) (P : Program) (g : Nat) (lb : Array Value) (encs : α → Array Value) (Step Kp : World → World → Prop) (Nx : List α → α → Prop) (S Sp : List α → Prop) (w : World) : Prop :=
  ∀ (l : Nat) (J Jx : List α → World → Prop) (W : World), Below w.heap.size w W → (∀ s A B, J s A → Step A B → J s B) → (∀ s A B, Jx s A → Step A B → Jx s B) →
    (∀ pre x W1, J pre W1 → Nx pre x → YieldAt F (n - 1) P l (encs x) W1 fun e W' =>
      (e = .returned (.bool true) ∧ J (pre ++ [x]) W' ∧ Kp W1 W') ∨ (e = .returned (.bool false) ∧ Jx (pre ++ [x]) W')) →
    J [] W →
    CallsIn F n P g (#[.func (.yield l) #[] #[]] ++ lb) W fun e W' => (∃ v, e = .returned v) ∧ ((∃ xs, S xs ∧ J xs W') ∨ (∃ pre, Sp pre ∧ Jx pre W'))

/-! ### What the statement keeps in memory -/
/-- Two blocks from D on: the calls that rounds defer (none), and the loop's record. -/
structure Marks (D : Nat) (r : Loop) (W : World) : Prop where
  calls : W.heap[D]? = some (.deferred (some []))
  loop : W.heap[D + 1]? = some (.loop r)
theorem Marks.lt {D : Nat} {r : Loop} {W : World} (h : Marks D r W) : D + 1 < W.heap.size := (Array.getElem?_eq_some_iff.1 h.loop).1
theorem Marks.put {D : Nat} {r : Loop} {W : World} (h : Marks D r W) (r' : Loop) : Marks D r' (W.putObj (D + 1) (.loop r')) :=
  ⟨(World.putObj_heap_other (by omega)).trans h.calls, World.putObj_heap_same h.lt⟩
theorem Marks.kept {D : Nat} {r : Loop} {W W' : World} (h : Marks D r W) (hk : KeepsFrom D W W') : Marks D r W' :=
  ⟨hk.same _ _ (Nat.le_refl _) h.calls rfl, hk.same _ _ (Nat.le_succ _) h.loop rfl⟩
theorem Marks.begun (w : World) (r : Loop) : Marks w.heap.size r ((w.alloc (.deferred (some []))).alloc (.loop r)) := by
  have h1 := World.alloc_heap_new w (.deferred (some []))
  have h2 := World.alloc_heap_new (w.alloc (.deferred (some []))) (.loop r)
  rw [World.size_alloc] at h2
  exact ⟨(Below.heap_alloc _ _ _ (by rw [World.size_alloc]; omega)).trans h1, h2⟩

/-- The record of a loop. -/
def recOf (fn : FuncId) (a : Act) (ps : Array Tmp) (assign body : Code) (D : Nat) (st : LoopState) (jump : Option Code) : Loop :=
  { state := st, pending := jump, fn, tmps := a.tmps, params := ps, assign, body, defers := D }

/-- How a round ends, by how its body was left. -/
theorem roundPost_left {α : Type} {fn : FuncId} {a : Act} {ps : Array Tmp} {assign body : Code} {D : Nat} {Kp : World → World → Prop} {I : List α → World → Prop} {Ix : Code → List α → World → Prop} {xs : List α} {W : World}
    (hm : Marks D (recOf fn a ps assign body D .busy none) W) {R : Ending → World → Prop}
    (hgo : ∀ W', Marks D (recOf fn a ps assign body D .busy none) W' → Kp W W' → I xs W' → R (.returned (.bool true)) (W'.putObj (D + 1) (.loop (recOf fn a ps assign body D .ready none))))
    (hout : ∀ c W', Marks D (recOf fn a ps assign body D .busy none) W' → Ix c xs W' → R (.returned (.bool false)) (W'.putObj (D + 1) (.loop (recOf fn a ps assign body D .done (some c))))) :
    ∀ e a' W', ownPostG D Kp I Ix xs W e a' W' → roundPost P (D + 1) R e a' W' := by
  have out : ∀ c W', KeepsFrom D W W' → Ix c xs W' → ∃ v w', (Instr.endRound (D + 1) (some c)).run P W' = .ok v w' ∧ R (.returned v) w' := fun c W' hk hx =>
    ⟨_, _, run_endRound (some c) (hm.kept hk).loop, hout c W' (hm.kept hk) hx⟩
  intro e a' W' h
  match e, h with
  | .normal, h => exact ⟨_, _, run_endRound none (hm.kept h.1).loop, hgo W' (hm.kept h.1) h.2.1 h.2.2⟩
  | .ret, h => exact out _ W' h.1 h.2
  | .exit _, h => exact out _ W' h.1 h.2
  | .goto _, h => exact out _ W' h.1 h.2

/-- The statement 'for .. := range g { .. }' over such an iterator. -/
theorem wpIn_rangeFunc_step {α : Type} {g : Operand} {ps : Array Tmp} {assign body : Code} {Q : Exit → Act → World → Prop} {a : Act} {w : World}
    (hro : F.round = none) (h1 : 1 ≤ n) {gf : Nat} {lb : Array Value} (hg : a.eval g = .func (.func gf) #[] lb) (hFg : F.fn gf) (eg : ∀ args w, (callFunc gf args).run P w = .ok (.enter gf args) w)
    {encs : α → Array Value} {Kp : World → World → Prop} {Step : World → World → Prop} {Nx : List α → α → Prop} {S Sp : List α → Prop} (hseq : SeqT F (n - 1) P gf lb encs Step Kp Nx S Sp w)
    {row0 : Option Nat} (hrow0 : ∀ k, row0 = some k → k < w.heap.size) (hStep : ∀ A B, Step A B → A.grownBy B row0)
    (hKt : ∀ {A B C : World}, Kp A B → Kp B C → Kp A C) (hKb : ∀ (W : World) (l : Nat) (o o' : Obj), w.heap.size ≤ l → W.heap[l]? = some o → o.isCells = false → o.isWalk = false → Kp W (W.putObj l o')) (hps : ∀ x, (encs x).size = ps.size)
    (I : List α → World → Prop) (Ix : Code → List α → World → Prop) (hI : OwnFrom w.heap.size I) (hIx : ∀ c, OwnFrom w.heap.size (Ix c)) (hIs : ∀ s A B, I s A → Step A B → I s B) (hIxs : ∀ c s A B, Ix c s A → Step A B → Ix c s B) (h0 : I [] w) (Ax : α → Act → World → Prop) (hAx : ∀ x a', OwnFrom w.heap.size (fun (_ : Unit) W => Ax x a' W))
    (hassign : ∀ (l : Nat) (pre : List α) (x : α) (W : World) (K : Act → World → Prop), I pre W → Nx pre x → (∀ a' W', KeepsFrom w.heap.size W W' → Kp W W' → I pre W' → Ax x a' W' → K a' W') →
      assign.wpIn (F.inRound l) (n - 1 - 1) P (Exit.then K (fun _ _ _ => False)) { tmps := (ps.zip (encs x)).foldl (fun t (p, v) => t.setIfInBounds p v) a.tmps, defers := [] } W)
    (hbody : ∀ (l : Nat) (pre : List α) (x : α) (a' : Act) (W : World), w.heap.size ≤ l → (∃ r, W.heap[l]? = some (.loop r)) → I pre W → Ax x a' W → Nx pre x → body.wpIn (F.inRound l) (n - 1 - 1) P (ownPostG w.heap.size Kp I Ix (pre ++ [x]) W) a' W)
    (hdone : ∀ (D : Nat) (xs : List α) (W : World), w.heap.size ≤ D → S xs → I xs W → W.heap[D]? = some (.deferred (some [])) → Q .normal { a with defers := { target := .collected D, args := #[] } :: a.defers } W)
    (hstop : ∀ (D : Nat) (c : Code) (pre : List α) (W : World), w.heap.size ≤ D → Sp pre → Ix c pre W → W.heap[D]? = some (.deferred (some [])) → c.wpIn F n P Q { a with defers := { target := .collected D, args := #[] } :: a.defers } W) :
    (Code.rangeFunc g ps assign body).wpIn F n P Q a w := by
  refine wpIn_rangeFunc fun fn hfn => ?_
  have hmk := Marks.begun w (recOf fn a ps assign body w.heap.size .ready none)
  have hst : ∀ {A B : World}, Step A B → KeepsFrom w.heap.size A B := fun hs => KeepsFrom.of_grownBy (hStep _ _ hs) hrow0
  rw [hro]
  have henter : (Instr.enterLoop fn a.tmps ps assign body none).run P w = .ok (w.heap.size + 1, [{ target := .collected w.heap.size, args := #[] }]) ((w.alloc (.deferred (some []))).alloc (.loop (recOf fn a ps assign body w.heap.size .ready none))) := run_enterLoop_outer fn a.tmps ps assign body
  have hlow := ((Below.refl w.heap.size w).alloc (Nat.le_refl _) (.deferred (some []))).alloc (by rw [World.size_alloc]; omega) (.loop (recOf fn a ps assign body w.heap.size .ready none))
  have hfirst : I [] ((w.alloc (.deferred (some []))).alloc (.loop (recOf fn a ps assign body w.heap.size .ready none))) := hI.alloc _ (hI.alloc _ h0)
  revert henter hmk hlow hfirst
  generalize (w.alloc (.deferred (some []))).alloc (.loop (recOf fn a ps assign body w.heap.size .ready none)) = V
  intro hmk henter hlow hfirst
  refine ⟨_, _, V, ⟨.fn (.func gf) lb, #[.func (.yield (w.heap.size + 1)) #[] #[]]⟩, V, gf, #[.func (.yield (w.heap.size + 1)) #[] #[]] ++ lb, V, henter, ?_, ?_, ?_, fun _ => h1, ?_⟩
  · simp only [resolve, hg]
    simp [go_sem]
  · intro f hf
    simp [Target.leads] at hf
    rw [← hf]; exact hFg
  · simp [invoke, go_sem, eg]
  refine (hseq (w.heap.size + 1) (fun pre W => Marks w.heap.size (recOf fn a ps assign body w.heap.size .ready none) W ∧ I pre W)
    (fun pre W => ∃ c, Marks w.heap.size (recOf fn a ps assign body w.heap.size .done (some c)) W ∧ Ix c pre W) _ hlow
    (fun _ _ _ h hs => ⟨h.1.kept (hst hs), hIs _ _ _ h.2 hs⟩) (fun _ _ _ ⟨c, h⟩ hs => ⟨c, h.1.kept (hst hs), hIxs c _ _ _ h.2 hs⟩) (fun pre x W hJ hx => ?_) ⟨hmk, hfirst⟩).mono ?_
  · refine ⟨fn, _, assign, body, run_yield hJ.1.loop (hps x), roundIn_of_wpIn hfn (hassign _ pre x W _ hJ.2 hx fun a1 W1 hk1 hp1 hi1 hx1 => ?_)⟩
    have m1 := hJ.1.kept hk1
    have m2 : Marks w.heap.size (recOf fn a ps assign body w.heap.size .busy none) (W1.putObj (w.heap.size + 1) (.loop (recOf fn a ps assign body w.heap.size .busy none))) := m1.put _
    have hp2 : Kp W1 (W1.putObj (w.heap.size + 1) (.loop (recOf fn a ps assign body w.heap.size .busy none))) := hKb _ _ _ _ (Nat.le_succ _) m1.loop rfl rfl
    refine ⟨_, run_beginRound m1.loop rfl, ?_⟩
    refine wpIn_mono (hbody _ pre x a1 _ (Nat.le_succ _) ⟨_, m2.loop⟩ (hI.putObj _ hi1 (Nat.le_succ _) m1.loop rfl) ((hAx x a1).putObj (s := ()) _ hx1 (Nat.le_succ _) m1.loop rfl) hx) ?_
    refine roundPost_left m2 (fun W3 m3 hp3 hi3 => .inl ⟨rfl, ⟨m3.put _, hI.putObj _ hi3 (Nat.le_succ _) m3.loop rfl⟩, ?_⟩) (fun c W3 m3 hx3 => .inr ⟨rfl, c, m3.put _, (hIx c).putObj _ hx3 (Nat.le_succ _) m3.loop rfl⟩)
    exact hKt (hKt hp1 hp2) (hKt hp3 (hKb _ _ _ _ (Nat.le_succ _) m3.loop rfl rfl))
  · rintro e W ⟨⟨v, rfl⟩, h⟩
    rcases h with ⟨xs, hS, m, hi⟩ | ⟨pre, hp, c, m, hi⟩
    · exact ⟨_, _, run_endLoop m.loop (by intro h; cases h), hdone _ xs _ (Nat.le_refl _) hS (hI.putObj _ hi (Nat.le_succ _) m.loop rfl) (m.put _).calls⟩
    · exact ⟨_, _, run_endLoop m.loop (by intro h; cases h), hstop _ c pre _ (Nat.le_refl _) hp ((hIx c).putObj _ hi (Nat.le_succ _) m.loop rfl) (m.put _).calls⟩

/-- The same where what a round is handed goes into slots alone. -/
theorem wpIn_rangeFunc_stepA {α : Type} {g : Operand} {ps : Array Tmp} {assign body : Code} {Q : Exit → Act → World → Prop} {a : Act} {w : World} {A : α → Act}
    (hro : F.round = none) (h1 : 1 ≤ n) {gf : Nat} {lb : Array Value} (hg : a.eval g = .func (.func gf) #[] lb) (hFg : F.fn gf) (eg : ∀ args w, (callFunc gf args).run P w = .ok (.enter gf args) w)
    {encs : α → Array Value} {Kp : World → World → Prop} {Step : World → World → Prop} {Nx : List α → α → Prop} {S Sp : List α → Prop} (hseq : SeqT F (n - 1) P gf lb encs Step Kp Nx S Sp w)
    {row0 : Option Nat} (hrow0 : ∀ k, row0 = some k → k < w.heap.size) (hStep : ∀ A B, Step A B → A.grownBy B row0)
    (hKt : ∀ {A B C : World}, Kp A B → Kp B C → Kp A C) (hKb : ∀ (W : World) (l : Nat) (o o' : Obj), w.heap.size ≤ l → W.heap[l]? = some o → o.isCells = false → o.isWalk = false → Kp W (W.putObj l o')) (hps : ∀ x, (encs x).size = ps.size)
    (I : List α → World → Prop) (hI : OwnFrom w.heap.size I) (hIs : ∀ s A B, I s A → Step A B → I s B) (h0 : I [] w)
    (hassign : ∀ (l : Nat) (pre : List α) (x : α) (W : World) (K : Act → World → Prop), I pre W → Nx pre x → (∀ a', a' = A x → K a' W) →
      assign.wpIn (F.inRound l) (n - 1 - 1) P (Exit.then K (fun _ _ _ => False)) { tmps := (ps.zip (encs x)).foldl (fun t (p, v) => t.setIfInBounds p v) a.tmps, defers := [] } W)
    (hKr : ∀ W, Kp W W)
    (hbody : ∀ (l : Nat) (pre : List α) (x : α) (W : World), w.heap.size ≤ l → I pre W → Nx pre x → body.wpIn (F.inRound l) (n - 1 - 1) P (ownPostG w.heap.size Kp I (fun _ _ _ => False) (pre ++ [x]) W) (A x) W)
    (hdone : ∀ (D : Nat) (xs : List α) (W : World), w.heap.size ≤ D → S xs → I xs W → W.heap[D]? = some (.deferred (some [])) → Q .normal { a with defers := { target := .collected D, args := #[] } :: a.defers } W) :
    (Code.rangeFunc g ps assign body).wpIn F n P Q a w := by
  refine wpIn_rangeFunc_step hro h1 hg hFg eg hseq hrow0 hStep hKt hKb hps I (fun _ _ _ => False) hI (fun _ _ _ _ _ h _ _ => h) hIs (fun _ _ _ _ h _ => h) h0 (fun x a' _ => a' = A x) (fun x a' _ _ _ _ h _ _ => h) ?_ ?_ hdone ?_
  · intro l pre x W K hI hN hK
    exact hassign l pre x W K hI hN fun a' ha => hK a' W ⟨Nat.le_refl _, fun _ _ _ h _ => h⟩ (hKr W) hI ha
  · intro l pre x a' W hl _ hI hA hN
    subst hA
    exact hbody l pre x W hl hI hN
  · intro _ _ _ _ _ _ h _
    exact h.elim

/-- The same where the one value goes into two slots. -/
theorem wpIn_rangeFunc_stepB {α : Type} {g : Operand} {s1 : Tmp} {assign body : Code} {Q : Exit → Act → World → Prop} {a : Act} {w : World} (s2 : Tmp) (v : α → Value)
    (hro : F.round = none) (h1 : 1 ≤ n) {gf : Nat} {lb : Array Value} (hg : a.eval g = .func (.func gf) #[] lb) (hFg : F.fn gf) (eg : ∀ args w, (callFunc gf args).run P w = .ok (.enter gf args) w)
    {Kp : World → World → Prop} {Step : World → World → Prop} {Nx : List α → α → Prop} {S Sp : List α → Prop} (hseq : SeqT F (n - 1) P gf lb (fun x => #[v x]) Step Kp Nx S Sp w)
    {row0 : Option Nat} (hrow0 : ∀ k, row0 = some k → k < w.heap.size) (hStep : ∀ A B, Step A B → A.grownBy B row0)
    (hKt : ∀ {A B C : World}, Kp A B → Kp B C → Kp A C) (hKb : ∀ (W : World) (l : Nat) (o o' : Obj), w.heap.size ≤ l → W.heap[l]? = some o → o.isCells = false → o.isWalk = false → Kp W (W.putObj l o'))
    (I : List α → World → Prop) (hI : OwnFrom w.heap.size I) (hIs : ∀ s A B, I s A → Step A B → I s B) (h0 : I [] w)
    (hassign : ∀ (l : Nat) (pre : List α) (x : α) (W : World) (K : Act → World → Prop), I pre W → Nx pre x → K { tmps := (a.tmps.setIfInBounds s1 (v x)).setIfInBounds s2 (v x), defers := [] } W →
      assign.wpIn (F.inRound l) (n - 1 - 1) P (Exit.then K (fun _ _ _ => False)) { tmps := a.tmps.setIfInBounds s1 (v x), defers := [] } W)
    (hKr : ∀ W, Kp W W)
    (hbody : ∀ (l : Nat) (pre : List α) (x : α) (W : World), w.heap.size ≤ l → I pre W → Nx pre x → body.wpIn (F.inRound l) (n - 1 - 1) P (ownPostG w.heap.size Kp I (fun _ _ _ => False) (pre ++ [x]) W) { tmps := (a.tmps.setIfInBounds s1 (v x)).setIfInBounds s2 (v x), defers := [] } W)
    (hdone : ∀ (D : Nat) (xs : List α) (W : World), w.heap.size ≤ D → S xs → I xs W → W.heap[D]? = some (.deferred (some [])) → Q .normal { a with defers := { target := .collected D, args := #[] } :: a.defers } W) :
    (Code.rangeFunc g #[s1] assign body).wpIn F n P Q a w :=
  wpIn_rangeFunc_stepA (A := fun x => { tmps := (a.tmps.setIfInBounds s1 (v x)).setIfInBounds s2 (v x), defers := [] }) hro h1 hg hFg eg hseq hrow0 hStep hKt hKb (fun _ => rfl) I hI hIs h0
    (fun l pre x W K hI hN hK => by
      have := hassign l pre x W K hI hN (hK _ rfl)
      simpa using this) hKr hbody hdone

/-! ### A region that draws its order, within a round, out of the same region outside -/

theorem operIn_of_wp {o : Oper} {a : Act} {w : World} {K : Act → World → Prop} {Q : Exit → Act → World → Prop} {l m : Nat} (hd : ∀ c, o.op ≠ .defer c) (h : o.wp P a w K Q) : o.wpIn (Fence.wide.inRound l) m P a w K Q := by
  refine ⟨fun _ _ => trivial, ?_⟩
  have hs : o.semAt (Fence.wide.inRound l).round a.eval = execOp a.eval o := Oper.semAt_some l a.eval o hd
  rw [hs]
  unfold Oper.wp at h
  generalize (execOp a.eval o).run P w = r at h ⊢
  cases r with
  | ok x w' =>
    cases x with
    | value v => exact h
    | skip => exact h
    | defer d => exact h
    | enter f args => exact ⟨fun h0 => by simp [Fence.wide] at h0, callsIn_wide.2 h⟩
    | row r args => exact ⟨fun h0 => by simp [Fence.wide] at h0, fun c cs _ => let ⟨v, w'', r, s⟩ := h c cs; ⟨v, w'', r, stepsIn_wide.2 s⟩⟩
    | _ => exact h.elim
  | halt x w' =>
    cases x with
    | panic v => exact h
    | _ => exact h.elim

theorem wpOpIn_of_wpOp {ops : Array Oper} {Q : Exit → Act → World → Prop} {i : Nat} {K : Act → World → Prop} {a : Act} {w : World} {l m : Nat} (hd : ∀ o ∈ ops, ∀ c, o.op ≠ .defer c) (hQ : ¬ LetsOut Q) (h : wpOp P ops Q i K a w) :
    wpOpIn (Fence.wide.inRound l) m P ops Q i K a w := by
  unfold wpOp at h
  unfold wpOpIn
  split
  · rename_i ho; simpa [ho] using h
  · rename_i o ho
    simp only [ho] at h
    split
    · rename_i hw
      rw [if_pos hw] at h
      exact operIn_of_wp (hd o (Array.mem_of_getElem? ho)) (h.resolve_right fun hh => hQ hh.2)
    · rename_i hw
      rw [if_neg hw] at h
      exact ⟨fun _ _ => trivial, h⟩

theorem wpAnyIn_of_wpAny {ops : Array Oper} {Q : Exit → Act → World → Prop} {md : Region.Mode} {l m : Nat} (hd : ∀ o ∈ ops, ∀ c, o.op ≠ .defer c) (hQ : ¬ LetsOut Q) : ∀ (fuel : Nat) (listed : Array Bool) (a : Act) (w : World),
    wpAny P md ops Q fuel listed a w → wpAnyIn (Fence.wide.inRound l) m P md ops Q fuel listed a w
  | 0, _, _, _, h => h
  | fuel + 1, _, _, _, h => ⟨h.1, fun i hi => wpOpIn_mono (fun a' w' h' => wpAnyIn_of_wpAny hd hQ fuel _ a' w' h') (wpOpIn_of_wpOp hd hQ (h.2 i hi))⟩

/-- No operation is a defer statement. -/
def noDefer (ops : Array Oper) : Bool := ops.all fun o => match o.op with | .defer _ => false | _ => true
theorem noDefer_spec {ops : Array Oper} (h : noDefer ops = true) : ∀ o ∈ ops, ∀ c, o.op ≠ .defer c := by
  intro o ho c e
  have := Array.all_eq_true_iff_forall_mem.1 h o ho
  simp [e] at this

/-- A region that draws, within a round. -/
theorem regionIn_L {ops : Array Oper} {Q : Exit → Act → World → Prop} {id l m : Nat} {a : Act} {w : World} (S : World → Prop) (hm : P.follows .mixedOrders = true) (hd : noDefer ops = true) (hQ : ¬ LetsOut Q)
    (h : wpAnyL P .any ops Q S ops.size (Array.replicate ops.size false) a w.drew) : (Code.region id ops true).wpIn (Fence.wide.inRound l) m P Q a w :=
  wpIn_region_any hm (wpAnyIn_of_wpAny (noDefer_spec hd) hQ _ _ _ _ (wpAny_of_L _ _ _ _ h))

theorem wide_depth : Fence.wide.depth = none := rfl
theorem wide_fn (f : FuncId) : Fence.wide.fn f = True := rfl

/-! ### At the wide fence the walk's plain words go -/
theorem wp_rangeFunc_step_wide {c : Code} {Q : Exit → Act → World → Prop} {a : Act} {w : World} (h : c.wpIn Fence.wide 5 P Q a w) : c.wp P Q a w := wpIn_wide.1 h

theorem calls_of_wp_marks {f : FuncId} {fn : Func} {c : Code} {args : Array Value} {w : World} {R : Ending → World → Prop} (hf : P.funcs[f]? = some fn) (hb : fn.body = some c)
    (h : c.wp P (bodyPostM Fence.wide 1 P fn R) { tmps := args ++ Array.replicate (fn.ntmps - args.size) undef, defers := [] } w) : Calls P f args w R :=
  callsIn_wide.1 (callsIn_of_wp_marks hf hb trivial (wpIn_wide.2 h))

/-- The function's return: the block for the rounds' deferred calls is shut. -/
theorem below_put {B D : Nat} {a W : World} (h : Below B a W) (hs : B ≤ W.heap.size) (hD : B ≤ D) (o : Obj) : Below B a (W.putObj D o) := h.grown (grownBy_putObj' W D o) hs (fun k e => by cases e; exact hD)

end Go.Proofs.YtjdlngbobnknmaaDoor
