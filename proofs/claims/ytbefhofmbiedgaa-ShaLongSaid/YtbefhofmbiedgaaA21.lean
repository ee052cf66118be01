/- Code and functions on the abstract machine. Over any program; no condition. -/
import Derived.Test.YtbefhofmbiedgaaA20e
namespace Go.Proofs.Ytbefhofmbiedgaa
set_option linter.all false
open Go.RowKit

inductive ACode where
  | skip
  | reg (hid : Option (List (Nat × Bool))) (l : List AOper)
  | seq (x y : ACode)
  | cond (c : Opd) (x y : ACode)
  | block (id : Nat) (c : ACode)
  | loop (c : ACode)
  | exit (id : Nat)
  | ret
def thenQ (K : St → Prop) (Q : Exit → St → Prop) : Exit → St → Prop
  | .normal, s => K s
  | e, s => Q e s
def inQ (id : Nat) (Q : Exit → St → Prop) : Exit → St → Prop
  | .exit i, s => if i = id then Q .normal s else Q (.exit i) s
  | e, s => Q e s
def condQ (x : AV) (p q : Prop) : Prop :=
  match x with
  | .bool b => (b = true → p) ∧ (b = false → q)
  | _ => False
def kpQ (slots : List Nat) (n : Nat) (s : St) (I : St → Prop) : Prop :=
  match kp slots n s with
  | some s' => I s'
  | none => False
/-- A loop's entry: nil slices made rows, some slots and objects kept. -/
def ent (nils : List (Nat × TypeId × Nat)) (slots ids : List Nat) (s : St) : Option St := (nilG nils s).bind (kpI slots ids)
def loopQ (m : Nat) (B : (Exit → St → Prop) → St → Prop) (Q : Exit → St → Prop) (s : St) : Prop :=
  ∃ (nils : List (Nat × TypeId × Nat)) (slots ids : List Nat) (I : St → Prop) (μ : St → Nat), nodupB ids = true ∧ ids.take m = List.range m ∧ (∃ s', ent nils slots ids s = some s' ∧ I s') ∧
    ∀ s, I s → B (thenQ (fun s' => kpQ slots ids.length s' fun s2 => I s2 ∧ μ s2 < μ s) Q) s
def awp (Φ : Phi) (m : Nat) : ACode → (Exit → St → Prop) → St → Prop
  | .skip, Q, s => Q .normal s
  | .reg none l, Q, s => arun Φ l (Q .normal) s
  | .reg (some hid) l, Q, s => drawQ Φ hid l (Q .normal) s
  | .seq x y, Q, s => awp Φ m x (thenQ (awp Φ m y Q) Q) s
  | .cond c x y, Q, s => condQ (s.ev c) (awp Φ m x Q s) (awp Φ m y Q s)
  | .block id c, Q, s => awp Φ m c (inQ id Q) s
  | .loop c, Q, s => loopQ m (awp Φ m c) Q s
  | .exit id, Q, s => Q (.exit id) s
  | .ret, Q, s => Q .ret s
/-- The model's code is this one. -/
def MtC (P : Program) (N : Nat) : Code → ACode → Prop
  | .skip, .skip => True
  | .label _, .skip => True
  | .region _ ops false, .reg none l => All2 (MtO P N ops) ops.toList l
  | .region _ ops true, .reg (some hid) l => All2 (MtO P N ops) ops.toList l ∧ drawOk P ops hid l
  | .seq x y, .seq x' y' => MtC P N x x' ∧ MtC P N y y'
  | .cond c x y, .cond c' x' y' => c' = opd c ∧ MtC P N x x' ∧ MtC P N y y'
  | .block i c, .block j c' => i = j ∧ MtC P N c c'
  | .loop c, .loop c' => MtC P N c c'
  | .exit i, .exit j => i = j
  | .ret, .ret => True
  | _, _ => False

section
variable {P : Program} {Φ : Phi} {F : Nat → Prop} {w0 w : World} {S0 S : Nat → Prop} {ρ0 ρ : Rho} {N m : Nat} {ds : List Deferred} {s : St} {a : Act}
theorem kpQ_ok {slots : List Nat} {n : Nat} {I : St → Prop} (h : kpQ slots n s I) : ∃ s', kp slots n s = some s' ∧ I s' := by
  unfold kpQ at h
  split at h
  · exact ⟨_, by assumption, h⟩
  · exact h.elim
theorem kp_len {slots : List Nat} {n : Nat} {s' : St} (h : kp slots n s = some s') : n ≤ s.hp.length := by
  unfold kp at h
  split at h
  · rename_i fr hp h1 h2
    rcases Nat.eq_zero_or_pos n with h0 | h0
    · omega
    · obtain ⟨y, y1, y2⟩ := (mapO_get h2).2 (n - 1) (n - 1) (by rw [List.getElem?_range (by omega)])
      split at y2
      · rename_i o ho; have := (List.getElem?_eq_some_iff.1 ho).1; omega
      · cases y2
  · cases h
theorem awp_ok (hΦ : PhiOk P Φ) (hm0 : ∀ i v L, ρ0 i v = some L → i < m) : ∀ (ac : ACode) (code : Code), MtC P N code ac → ∀ (Q : Exit → St → Prop) (Q' : Exit → Act → World → Prop), (∀ e s a w, Q e s → Rel F w0 S0 ρ0 N ds s a w → Q' e a w) →
    ∀ s a w, awp Φ m ac Q s → Rel F w0 S0 ρ0 N ds s a w → code.wp P Q' a w := by
  intro ac
  induction ac with
  | skip =>
    intro code hm Q Q' hQ s a w h R
    cases code <;> first | exact wp_skip (hQ _ _ _ _ h R) | exact wp_label (hQ _ _ _ _ h R) | exact hm.elim | (rename_i d; cases d <;> exact hm.elim)
  | reg hid l =>
    intro code hm Q Q' hQ s a w h R
    cases code <;> first | exact hm.elim | (rename_i d; cases d <;> exact hm.elim) | skip
    case region id' ops draw =>
      cases draw with
      | false =>
        cases hid with
        | none => exact areg_ok hΦ hm h R fun s a w hk R => hQ _ _ _ _ hk R
        | some _ => exact hm.elim
      | true =>
        cases hid with
        | none => exact hm.elim
        | some hid => exact adraw_ok hΦ hm.1 hm.2 h R fun s a w hk R => hQ _ _ _ _ hk R
  | seq x y ihx ihy =>
    intro code hm Q Q' hQ s a w h R
    cases code <;> first | exact hm.elim | (rename_i d; cases d <;> exact hm.elim) | skip
    case seq x' y' =>
      refine wp_seq (ihx x' hm.1 _ _ (fun e s a w hq R => ?_) s a w h R)
      cases e <;> first | exact ihy y' hm.2 Q Q' hQ s a w hq R | exact hQ _ _ _ _ hq R
  | cond c x y ihx ihy =>
    intro code hm Q Q' hQ s a w h R
    cases code <;> first | exact hm.elim | (rename_i d; cases d <;> exact hm.elim) | skip
    case cond c' x' y' =>
      obtain ⟨rfl, hx, hy⟩ := hm
      simp only [awp, condQ] at h
      split at h
      · rename_i b hb
        obtain ⟨S, ρ, R0⟩ := R
        have hv := ev_ok R0.fr c'
        rw [hb] at hv
        refine wp_cond hv.bool ?_
        cases b with
        | true => exact ihx x' hx Q Q' hQ s a w (h.1 rfl) ⟨S, ρ, R0⟩
        | false => exact ihy y' hy Q Q' hQ s a w (h.2 rfl) ⟨S, ρ, R0⟩
      · exact h.elim
  | block id c ih =>
    intro code hm Q Q' hQ s a w h R
    cases code <;> first | exact hm.elim | (rename_i d; cases d <;> exact hm.elim) | skip
    case block id' c' =>
      obtain ⟨rfl, hc⟩ := hm
      refine wp_block (ih c' hc _ _ (fun e s a w hq R => ?_) s a w h R)
      cases e
      case exit i =>
        simp only [inQ] at hq
        simp only [Exit.inBlock]
        split
        · rename_i e; rw [if_pos e] at hq; exact hQ _ _ _ _ hq R
        · rename_i e; rw [if_neg e] at hq; exact hQ _ _ _ _ hq R
      all_goals exact hQ _ _ _ _ hq R
  | loop c ih =>
    intro code hm Q Q' hQ s a w h R
    cases code <;> first | exact hm.elim | (rename_i d; cases d <;> exact hm.elim) | skip
    case loop c' =>
      obtain ⟨nils, slots, ids, I, μ, hnd, htk, ⟨s', hk, hI⟩, hr⟩ := h
      have hmn : m ≤ ids.length := by
        have := congrArg List.length htk
        simp only [List.length_take, List.length_range] at this; omega
      have hid : ∀ i v L, ρ0 i v = some L → ids[i]? = some i := fun i v L hL => by
        have hi := hm0 i v L hL
        have h1 : (ids.take m)[i]? = some i := by rw [htk]; simp [hi]
        rw [List.getElem?_take, if_pos hi] at h1; exact h1
      generalize ids.length = n at *
      have hn0 : ∀ i v L, ρ0 i v = some L → i < n := fun i v L h => Nat.lt_of_lt_of_le (hm0 i v L h) hmn
      unfold ent at hk
      obtain ⟨s1, hk1, hk2⟩ := Option.bind_eq_some_iff.1 hk
      have R' := kpI_ok (nilG_ok _ R hk1) hnd hid hk2
      -- by the measure
      have key : ∀ (k : Nat) (s : St) (a : Act) (w : World), μ s = k → I s → Rel F w0 S0 ρ0 N ds s a w → ∀ (b : Frame) (kk : List Item) (cs : List Frame), ∃ e a' w', Q' e a' w' ∧ Arrives P (lone (b.at a (.code c' :: .inLoop c' :: kk)) cs w) b kk cs e a' w' := by
        intro k
        induction k using Nat.strongRecOn with
        | _ k ihk =>
          intro s a w hk hI R b kk cs
          have hbody := ih c' hm _ (Exit.then (fun a' w' => ∃ s2, I s2 ∧ μ s2 < μ s ∧ Rel F w0 S0 ρ0 N ds s2 a' w') Q') (fun e s1 a1 w1 hq R1 => by
            cases e
            case normal =>
              obtain ⟨s2, hk2, hI2, hlt⟩ := kpQ_ok hq
              exact ⟨s2, hI2, hlt, kp_ok R1 (kp_len hk2) hn0 hk2⟩
            all_goals exact hQ _ _ _ _ hq R1) s a w (hr s hI) R
          obtain ⟨e, a1, w1, hq, harr⟩ := hbody b (.inLoop c' :: kk) cs
          cases e with
          | normal =>
            obtain ⟨s2, hI2, hlt, R2⟩ := hq
            obtain ⟨e2, a2, w2, hq2, harr2⟩ := ihk (μ s2) (by omega) s2 a1 w1 rfl hI2 R2 b kk cs
            exact ⟨e2, a2, w2, hq2, .of_steps (Steps.trans harr (.one step_inLoop)) harr2⟩
          | exit id => exact ⟨_, a1, w1, hq, .pass (x := .inLoop c') rfl (fun _ _ => .inl (by simp)) harr⟩
          | goto l => exact ⟨_, a1, w1, hq, .pass (x := .inLoop c') rfl (fun _ _ => .inl (by simp)) harr⟩
          | ret => exact ⟨_, a1, w1, hq, .pass (x := .inLoop c') rfl (fun _ _ => .inl (by simp)) harr⟩
          | panic ch => exact ⟨_, a1, w1, hq, .pass (x := .inLoop c') rfl (fun _ _ => .inl (by simp)) harr⟩
          | outgrown => exact ⟨_, a1, w1, hq, .pass (x := .inLoop c') rfl (fun _ _ => .inl (by simp)) harr⟩
      intro b kk cs
      obtain ⟨e, a', w', hq, harr⟩ := key _ s' a w rfl hI R' b kk cs
      exact ⟨e, a', w', hq, .of_steps (.one step_loop) harr⟩
  | exit i =>
    intro code hm Q Q' hQ s a w h R
    cases code <;> first | exact hm.elim | (rename_i d; cases d <;> exact hm.elim) | skip
    case exit j => cases hm; exact wp_exit (hQ _ _ _ _ h R)
  | ret =>
    intro code hm Q Q' hQ s a w h R
    cases code <;> first | exact hm.elim | (rename_i d; cases d <;> exact hm.elim) | skip
    case ret => exact wp_ret (hQ _ _ _ _ h R)

/-! ### Functions -/
inductive ARes where
  | t (n : Nat)
  | c (t : Nat) (rt : Rt)
def ares (s : St) : ARes → Option (AV × Prop)
  | .t n => some (lk s.fr n, True)
  | .c t rt => aLd s.hp rt (lk s.fr t)
def AV.isTup : AV → Bool
  | .tup _ => true
  | _ => false
def aress (s : St) : List ARes → Option (List AV × Prop)
  | [] => some ([], True)
  | r :: rs => match ares s r, aress s rs with
    | some (x, p), some (xs, q) => if x.isTup then none else some (x :: xs, p ∧ q)
    | _, _ => none
def aret (s : St) : List ARes → Option (AV × Prop)
  | [r] => ares s r
  | rs => match aress s rs with
    | some (xs, p) => some (.tup xs, p)
    | none => none
def finI (m : Nat) (r : Ret) (s : St) (x : AV) (ids : List Nat) : Prop := ids.take m = List.range m ∧ nodupB ids = true ∧ ren (posOf ids) 4 x = some r.v ∧ lentO s.hp ids = some r.hp
def finP (m : Nat) (r : Ret) (s : St) : Option (AV × Prop) → Prop
  | some (x, p) => p ∧ finI m r s x (closeIds s.hp 2 (addNew (List.range m) (idsOf 4 x)))
  | none => False
def retQ (rs : List ARes) (m : Nat) (r : Ret) : Exit → St → Prop
  | .normal, s => finP m r s (aret s rs)
  | .ret, s => finP m r s (aret s rs)
  | _, _ => False
def slots (k : Nat) : List AV → List (Nat × AV)
  | [] => []
  | x :: xs => (k, x) :: slots (k + 1) xs
def MtR (P : Program) : ResultVar → ARes → Prop
  | .tmp t, .t n => t = n
  | .cell a t, .c n rt => a = n ∧ RtOk P t rt
  | _, _ => False

theorem lk_slots : ∀ (xs : List AV) (k t : Nat), lk (slots k xs) t = if k ≤ t then xs.getD (t - k) .top else .top := by
  intro xs
  induction xs with
  | nil => intro k t; simp [slots, lk]
  | cons x xs ih =>
    intro k t
    simp only [slots, lk, ih]
    by_cases e : k = t
    · subst e; simp
    · rw [if_neg e]
      by_cases h : k ≤ t
      · rw [if_pos (show k + 1 ≤ t by omega), if_pos h]
        obtain ⟨d, hd⟩ : ∃ d, t - k = d + 1 := ⟨t - k - 1, by omega⟩
        rw [hd, show t - (k + 1) = d by omega]; rfl
      · rw [if_neg (by omega), if_neg h]
def resF (ts : Array Value) : ResultVar → Sem Value
  | .tmp t => pure (ts.getD t undef)
  | .cell b t => do loadVar t (← asAddr (ts.getD b undef))
theorem results_resF (fn : Func) (ts : Array Value) : results fn ts = (do
    let vs ← fn.results.mapM (resF ts)
    pure (if h : vs.size = 1 then vs[0] else .tuple vs)) := by
  unfold results
  congr 2
theorem ares_ok {rv : ResultVar} {ar : ARes} {x : AV} {p : Prop} (H : ObsOk w S ρ s.hp) (hf : FrOk w S ρ s.fr a.tmps) (hm : MtR P rv ar) (h : ares s ar = some (x, p)) (hp : p) :
    ∃ v, (resF a.tmps rv).run P w = .ok v w ∧ Vl w S ρ x v := by
  cases rv with
  | tmp t =>
    cases ar with
    | t n => cases hm; simp only [ares, Option.some.injEq, Prod.mk.injEq] at h; obtain ⟨rfl, rfl⟩ := h; exact ⟨_, rfl, hf t⟩
    | c => exact hm.elim
  | cell b t =>
    cases ar with
    | t => exact hm.elim
    | c n rt =>
      obtain ⟨rfl, ht⟩ := hm
      obtain ⟨q, hq, hv⟩ := aLd_ok (P := P) H h hp (hf b) ht
      refine ⟨q, ?_, hv⟩
      simp only [Instr.loadAt] at hq
      simp only [resF, Sem.run_bind] at hq ⊢
      generalize a.tmps.getD b undef = vv at hq ⊢
      cases vv with
      | pointer ad =>
        cases ad with
        | none => simp [Instr.sureAddr, stuck, Sem.run, Result.andThen] at hq
        | some ad => simpa [Instr.sureAddr, asAddr] using hq
      | _ => simp [Instr.sureAddr, stuck, Sem.run, Result.andThen] at hq
theorem aress_ok (H : ObsOk w S ρ s.hp) (hf : FrOk w S ρ s.fr a.tmps) : ∀ (rv : List ResultVar) (ar : List ARes) (xs : List AV) (p : Prop), All2 (MtR P) rv ar → aress s ar = some (xs, p) → p →
    ∃ vs, (rv.mapM (resF a.tmps)).run P w = .ok vs w ∧ vs.length = xs.length ∧ ∀ i, i < xs.length → Vl w S ρ (xs.getD i .top) (vs.getD i undef) ∧ (xs.getD i .top).isTup = false := by
  intro rv
  induction rv with
  | nil =>
    intro ar xs p hm h hp
    cases ar with
    | nil => simp only [aress, Option.some.injEq, Prod.mk.injEq] at h; obtain ⟨rfl, rfl⟩ := h; exact ⟨[], by simp, rfl, fun i hi => by simp at hi⟩
    | cons _ _ => exact hm.elim
  | cons r rv ih =>
    intro ar xs p hm h hp
    cases ar with
    | nil => exact hm.elim
    | cons q ar =>
      simp only [aress] at h
      split at h
      · rename_i x p1 xs' q1 h1 h2
        split at h
        · cases h
        rename_i htup
        simp only [Option.some.injEq, Prod.mk.injEq] at h
        obtain ⟨rfl, rfl⟩ := h
        obtain ⟨v, hv1, hv2⟩ := ares_ok H hf hm.1 h1 hp.1
        obtain ⟨vs, k1, k2, k3⟩ := ih ar xs' q1 hm.2 h2 hp.2
        refine ⟨v :: vs, by simp [List.mapM_cons, hv1, k1], by simp [k2], fun i hi => ?_⟩
        cases i with
        | zero => exact ⟨by simpa using hv2, by simpa using htup⟩
        | succ i => simpa using k3 i (by simpa using hi)
      · cases h
theorem aret_ok {fn : Func} {rs : List ARes} {x : AV} {p : Prop} (H : ObsOk w S ρ s.hp) (hf : FrOk w S ρ s.fr a.tmps) (hm : All2 (MtR P) fn.results.toList rs) (h : aret s rs = some (x, p)) (hp : p) : ∃ v, (results fn a.tmps).run P w = .ok v w ∧ Vl w S ρ x v := by
  have gen := aress_ok (P := P) (w := w) (S := S) (ρ := ρ) (s := s) (a := a) H hf fn.results.toList rs
  have hres : ∀ vs : List Value, (fn.results.toList.mapM (resF a.tmps)).run P w = .ok vs w → (results fn a.tmps).run P w = .ok (if h : vs.toArray.size = 1 then vs.toArray[0] else .tuple vs.toArray) w := by
    intro vs hvs
    rw [results_resF, Array.mapM_eq_mapM_toList]
    simp only [Sem.run_bind, Sem.run_map, hvs, Result.andThen_ok]
    rfl
  match rs, hm, h with
  | [], hm, h =>
    simp only [aret, aress, Option.some.injEq, Prod.mk.injEq] at h
    obtain ⟨rfl, rfl⟩ := h
    obtain ⟨vs, k1, k2, k3⟩ := gen [] True hm rfl trivial
    obtain rfl := List.eq_nil_of_length_eq_zero k2
    exact ⟨_, hres [] k1, ⟨[], rfl, rfl, fun i hi => by simp at hi⟩⟩
  | [r], hm, h =>
    simp only [aret] at h
    match hrl : fn.results.toList, hm with
    | [rv], hm =>
      obtain ⟨v, hv1, hv2⟩ := ares_ok H hf hm.1 h hp
      refine ⟨v, by rw [hres [v] (by rw [hrl]; simp [List.mapM_cons, hv1])]; rfl, hv2⟩
  | r1 :: r2 :: rs, hm, h =>
    simp only [aret] at h
    split at h
    · rename_i xs q hx
      simp only [Option.some.injEq, Prod.mk.injEq] at h
      obtain ⟨rfl, rfl⟩ := h
      obtain ⟨vs, k1, k2, k3⟩ := gen xs q hm hx hp
      have hl : 2 ≤ xs.length := by
        simp only [aress] at hx
        split at hx
        · rename_i h1 h2
          split at hx
          · cases hx
          split at h2
          · split at h2
            · cases h2
            simp only [Option.some.injEq, Prod.mk.injEq] at h2 hx
            obtain ⟨rfl, _⟩ := hx
            obtain ⟨rfl, _⟩ := h2
            simp
          · cases h2
        · cases hx
      refine ⟨.tuple vs.toArray, by rw [hres vs k1, dif_neg (by simp; omega)], ⟨vs, rfl, k2, fun i hi => ?_⟩⟩
      obtain ⟨e1, e2⟩ := k3 i hi
      exact e1.to1 fun ys e => by rw [e] at e2; cases e2
    · cases h

/-- A function's contract, by its code on the abstract machine. -/
theorem fn_ok {f : FuncId} {fn : Func} {code : Code} {ac : ACode} {rs : List ARes} {sp : Spec} (hf : P.funcs[f]? = some fn) (hb : fn.body = some code) (hm : MtC P fn.ntmps code ac) (hr : All2 (MtR P) fn.results.toList rs) (hΦ : PhiOk P Φ)
    (h : ∀ as hp r, sp as hp = some r → r.pre → as.length ≤ fn.ntmps ∧ awp Φ hp.length ac (retQ rs hp.length r) ⟨slots 0 as, hp⟩) : FnOk P f sp := by
  intro as hp r hs hp' w S ρ args H ha
  obtain ⟨hlen, hw⟩ := h as hp r hs hp'
  refine calls_of_wp hf hb ?_
  have hal : args.length ≤ fn.ntmps := by rw [ha.1]; exact hlen
  have R : Rel (Lent ρ hp) w S ρ fn.ntmps [] ⟨slots 0 as, hp⟩ { tmps := args.toArray ++ Array.replicate (fn.ntmps - args.toArray.size) undef, defers := [] } w := by
    refine ⟨S, ρ, H, fun t => ?_, by simp; omega, rfl, fun b hb => .inl hb, Ext.refl _ _ _⟩
    rw [lk_slots, if_pos (Nat.zero_le t), Nat.sub_zero]
    rcases Nat.lt_or_ge t as.length with hlt | hge
    · have := ha.2 t hlt
      have e : (args.toArray ++ Array.replicate (fn.ntmps - args.toArray.size) undef).getD t undef = args.getD t undef := by
        have hta : t < args.length := by rw [ha.1]; exact hlt
        have h1 : (args.toArray ++ Array.replicate (fn.ntmps - args.toArray.size) undef)[t]? = some args[t] := by
          rw [Array.getElem?_append_left (by simpa using hta)]; simp [hta]
        rw [Array.getD_eq_getD_getElem?, h1, List.getD_eq_getElem?_getD, List.getElem?_eq_getElem hta]
      rw [e]; exact this
    · have : as.getD t .top = .top := by rw [List.getD_eq_getElem?_getD, List.getElem?_eq_none hge]; rfl
      rw [this]; exact Vl.top _
  have fin : ∀ (s : St) (a : Act) (w' : World), finP hp.length r s (aret s rs) → Rel (Lent ρ hp) w S ρ fn.ntmps [] s a w' →
      a.defers = [] ∧ ∃ v, (results fn a.tmps).run P w' = .ok v w' ∧ ∃ v' S' ρ', Ending.returned v = .returned v' ∧ Vl w' S' ρ' r.v v' ∧ HeapOk (Lent ρ hp) w S' ρ' r.hp w' ∧ Ext w w' S S' ρ ρ' ∧ (∀ b, S' b → S b ∨ w.heap.size ≤ b ∨ Lent ρ hp b) := by
    intro s a w' hfin hR
    obtain ⟨S', ρ', R⟩ := hR
    unfold finP at hfin
    split at hfin
    · rename_i x p hx
      obtain ⟨hp1, hfin⟩ := hfin
      generalize closeIds s.hp 2 (addNew (List.range hp.length) (idsOf 4 x)) = ids at hfin
      obtain ⟨i1, i2, i3, i4⟩ := hfin
      obtain ⟨v, hv1, hv2⟩ := aret_ok R.heap.obs R.fr hr hx hp1
      obtain ⟨H', hσ⟩ := R.heap.restr i2 i4
      refine ⟨R.dfr, v, hv1, v, S', _, rfl, ren_vl hσ i3 hv2, H', ⟨R.ext.mem, R.ext.st, fun i u L hL => ?_⟩, fun b hb => ?_⟩
      · have hi : i < hp.length := by
          rcases Nat.lt_or_ge i hp.length with h1 | h1
          · exact h1
          · rw [H.new i h1] at hL; cases hL
        have h1 : ids[i]? = some i := by
          have : (ids.take hp.length)[i]? = some i := by rw [i1]; simp [hi]
          rw [List.getElem?_take, if_pos hi] at this; exact this
        simp only [h1]
        exact R.ext.loc _ _ _ hL
      · rcases R.sin b hb with h | h | h
        · exact .inl h
        · exact .inr (.inr h)
        · exact .inr (.inl h)
    · exact hfin.elim
  refine awp_ok hΦ (fun i v L hL => ?_) ac code hm (retQ rs hp.length r) _ (fun e s a w' hq R' => ?_) _ _ w hw R
  · rcases Nat.lt_or_ge i hp.length with h1 | h1
    · exact h1
    · rw [H.new i h1] at hL; cases hL
  · cases e with
    | normal => exact fin s a w' hq R'
    | ret => exact fin s a w' hq R'
    | _ => exact hq.elim
end
end Go.Proofs.Ytbefhofmbiedgaa
