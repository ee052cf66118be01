/- Regions in the text's order, code and functions on the abstract machine. Over any program; no condition. -/
import Derived.Test.YtbefhofmbiedgaaA19
namespace Go.Proofs.Ytbefhofmbiedgaa
set_option linter.all false
open Go.RowKit

def aq : Option (AV × List AObj × Prop) → St → Option Nat → (St → Prop) → Prop
  | some (x, hp, p), s, d, K => p ∧ K (s.put d x hp)
  | none, _, _, _ => False
/-- A slot whose truth is known. -/
def St.pin (s : St) (t : Nat) (b : Bool) : St := ⟨(t, .bool b) :: s.fr, s.hp⟩
def gdQ (x : AV) (b : Bool) (p q : Prop) : Prop :=
  match x with
  | .bool c => (c = b → p) ∧ (c = (!b) → q)
  | _ => False
theorem gdQ_ok {x : AV} {b : Bool} {p q : Prop} (h : gdQ x b p q) : ∃ c, x = .bool c ∧ (c = b → p) ∧ (c = (!b) → q) := by
  unfold gdQ at h
  split at h
  · exact ⟨_, rfl, h⟩
  · exact h.elim
theorem gdQ_mono {x : AV} {b : Bool} {p q p' q' : Prop} (h : gdQ x b p q) (hp : p → p') (hq : q → q') : gdQ x b p' q' := by
  unfold gdQ at h ⊢
  split at h
  · exact ⟨fun e => hp (h.1 e), fun e => hq (h.2 e)⟩
  · exact h.elim
theorem pin_lk {s : St} {t : Nat} {b : Bool} (h : lk s.fr t = .bool b) (u : Nat) : lk (s.pin t b).fr u = lk s.fr u := by
  simp only [St.pin, lk]
  split
  · rename_i e; subst e; exact h.symm
  · rfl
def arun (Φ : Phi) : List AOper → (St → Prop) → St → Prop
  | [], K, s => K s
  | ⟨d, op, none⟩ :: r, K, s => aq (astep Φ s op) s d (arun Φ r K)
  | ⟨d, op, some (t, b)⟩ :: r, K, s => gdQ (lk s.fr t) b (aq (astep Φ s op) (s.pin t b) d (arun Φ r K)) (arun Φ r K ((s.pin t (!b)).put d .top s.hp))
theorem arun_eq {Φ : Phi} {o : AOper} {r : List AOper} {K : St → Prop} {s : St} : arun Φ (o :: r) K s = match o.grd with
    | none => aq (astep Φ s o.op) s o.dst (arun Φ r K)
    | some (t, b) => gdQ (lk s.fr t) b (aq (astep Φ s o.op) (s.pin t b) o.dst (arun Φ r K)) (arun Φ r K ((s.pin t (!b)).put o.dst .top s.hp)) := by
  obtain ⟨d, op, g⟩ := o
  cases g <;> rfl
def MtO (P : Program) (N : Nat) (ops : Array Oper) (o : Oper) (ao : AOper) : Prop :=
  o.dst = ao.dst ∧ MtA P o.op ao.op ∧ (∀ t, o.dst = some t → t < N) ∧ match o.guard, ao.grd with
    | none, none => True
    | some (g, b), some (t, b') => b = b' ∧ (ops[g]?).bind (·.dst) = some t ∧ t < N
    | _, _ => False
def All2 {α β : Type} (R : α → β → Prop) : List α → List β → Prop
  | [], [] => True
  | a :: l, b :: m => R a b ∧ All2 R l m
  | _, _ => False

section
variable {P : Program} {Φ : Phi} {F : Nat → Prop} {w0 w : World} {S0 S : Nat → Prop} {ρ0 ρ : Rho} {N : Nat} {ds : List Deferred} {s : St} {a : Act}
theorem wanted_of {ops : Array Oper} {o : Oper} {g t : Nat} {b c : Bool} (hg : o.guard = some (g, b)) (ht : (ops[g]?).bind (·.dst) = some t) (hl : t < a.tmps.size) (hv : a.tmps.getD t undef = .bool c) : Region.wanted o (yielded ops a.tmps) = (c == b) := by
  have h1 : a.tmps[t]? = some (.bool c) := by
    rw [Array.getElem?_eq_getElem hl]
    have : a.tmps.getD t undef = a.tmps[t] := by simp [Array.getD, hl]
    rw [← this, hv]
  unfold Region.wanted yielded
  rw [hg]
  simp only [ht, Option.bind_some, h1]
  cases c <;> cases b <;> rfl
theorem Rel.skip {d : Option Nat} (R : Rel F w0 S0 ρ0 N ds s a w) (hd : ∀ t, d = some t → t < N) : Rel F w0 S0 ρ0 N ds (s.put d .top s.hp) (a.put d undef) w := by
  obtain ⟨S, ρ, R⟩ := R
  exact ⟨S, ρ, R.next R.heap (Ext.refl _ _ _) (fun _ h => .inl h) hd (Vl.top _)⟩
theorem put_hp' (s : St) (d : Option Nat) (x : AV) (hp : List AObj) : (s.put d x hp).hp = hp := by cases d <;> rfl
theorem put_lk' (s : St) (d : Option Nat) (x : AV) (hp : List AObj) (t : Nat) : lk (s.put d x hp).fr t = if d = some t then x else lk s.fr t := by
  cases d with
  | none => simp [St.put]
  | some u => simp only [St.put, lk, Option.some.injEq]
theorem Rel.congr {s s' : St} (R : Rel F w0 S0 ρ0 N ds s a w) (h1 : ∀ t, lk s.fr t = lk s'.fr t) (h2 : s.hp = s'.hp) : Rel F w0 S0 ρ0 N ds s' a w := by
  obtain ⟨S, ρ, R⟩ := R
  exact ⟨S, ρ, h2 ▸ R.heap, fun t => h1 t ▸ R.fr t, R.size, R.dfr, R.sin, R.ext⟩
theorem arun_ok (hΦ : PhiOk P Φ) {ops : Array Oper} {Q : Exit → Act → World → Prop} {K : St → Prop} (hK : ∀ s a w, K s → Rel F w0 S0 ρ0 N ds s a w → Q .normal a w) : ∀ (l : List Oper) (l' : List AOper) (s : St) (a : Act) (w : World),
    All2 (MtO P N ops) l l' → arun Φ l' K s → Rel F w0 S0 ρ0 N ds s a w → wpList P ops Q l a w := by
  intro l
  induction l with
  | nil =>
    intro l' s a w hm h R
    cases l' with
    | nil => exact hK s a w h R
    | cons _ _ => exact hm.elim
  | cons o l ih =>
    intro l' s a w hm h R
    cases l' with
    | nil => exact hm.elim
    | cons o' l' =>
      obtain ⟨⟨hd, hop, hdN, hg⟩, hm⟩ := hm
      have exec : ∀ s1, (∀ t, lk s1.fr t = lk s.fr t) → s1.hp = s.hp → (aq (astep Φ s o'.op) s1 o'.dst (arun Φ l' K)) → o.wp P a w (wpList P ops Q l) Q := by
        intro s1 hs1 hs2 h
        unfold aq at h
        split at h
        · rename_i x hp p hs
          refine astep_ok hΦ R hop hs h.1 hdN fun a' w' R' => ?_
          rw [hd] at R'
          exact ih l' _ a' w' hm h.2 (R'.congr (fun t => by rw [put_lk', put_lk', hs1]) (by rw [put_hp', put_hp']))
        · exact h.elim
      unfold wpList
      rw [arun_eq] at h
      cases hgr : o.guard with
      | none =>
        rw [hgr] at hg
        cases hgr' : o'.grd with
        | none =>
          rw [hgr'] at h
          rw [if_pos (by simp [Region.wanted, hgr])]
          exact .inl (exec s (fun _ => rfl) rfl h)
        | some x => rw [hgr'] at hg; exact hg.elim
      | some x =>
        obtain ⟨g, b⟩ := x
        rw [hgr] at hg
        cases hgr' : o'.grd with
        | none => rw [hgr'] at hg; exact hg.elim
        | some x =>
          obtain ⟨t, b'⟩ := x
          rw [hgr'] at hg h
          obtain ⟨rfl, ht, htN⟩ := hg
          simp only at h
          obtain ⟨c, hc, h⟩ := gdQ_ok h
          · obtain ⟨S, ρ, R0⟩ := R
            have hv := R0.fr t
            rw [hc] at hv
            rw [wanted_of hgr ht (by rw [R0.size]; exact htN) hv.bool]
            by_cases e : c = b
            · subst e
              rw [if_pos (by simp)]
              exact .inl (exec _ (pin_lk hc) rfl (h.1 rfl))
            · rw [if_neg (by simpa using e)]
              have R1 := Rel.skip (d := o.dst) ⟨S, ρ, R0⟩ hdN
              rw [hd] at R1 ⊢
              have hcb : c = !b := by cases c <;> cases b <;> simp_all
              exact ih l' _ _ w hm (h.2 hcb) (R1.congr (fun t => by rw [put_lk', put_lk', pin_lk (hcb ▸ hc)]) (by rw [put_hp', put_hp']))
theorem areg_ok (hΦ : PhiOk P Φ) {id : Nat} {ops : Array Oper} {l' : List AOper} {Q : Exit → Act → World → Prop} {K : St → Prop} (hm : All2 (MtO P N ops) ops.toList l') (h : arun Φ l' K s) (R : Rel F w0 S0 ρ0 N ds s a w)
    (hK : ∀ s a w, K s → Rel F w0 S0 ρ0 N ds s a w → Q .normal a w) : (Code.region id ops false).wp P Q a w :=
  wp_region_list (arun_ok hΦ hK _ _ s a w hm h R)

/-! ### Some slots and some objects, all else forgotten -/
theorem HeapOk.restr (H : HeapOk F w0 S ρ s.hp w) {ids : List Nat} {hc : List AObj} (hnd : nodupB ids = true) (h3 : lentO s.hp ids = some hc) :
    HeapOk F w0 S (fun i v => match ids[i]? with | some k => ρ k v | none => none) hc w ∧ ∀ i j, posOf ids i = some j → ∀ v L, ρ i v = some L → (fun i v => match ids[i]? with | some k => ρ k v | none => none : Rho) j v = some L := by
  have hinj := nodupB_ok hnd
  obtain ⟨g1, g2⟩ := mapO_get h3
  have hρc : ∀ {i k : Nat}, ids[i]? = some k → ∀ v, (fun i v => match ids[i]? with | some k => ρ k v | none => none : Rho) i v = ρ k v := fun {i k} h v => by simp only [h]
  have hσ : ∀ i j, posOf ids i = some j → ∀ v L, ρ i v = some L → (fun i v => match ids[i]? with | some k => ρ k v | none => none : Rho) j v = some L := fun i j hij v L h => by rw [hρc (posOf_ok hij)]; exact h
  refine ⟨?_, hσ⟩
  have obj : ∀ (i : Nat) (o : AObj), hc[i]? = some o → ∃ k ok, ids[i]? = some k ∧ s.hp[k]? = some ok ∧ ObjOk w S (fun i v => match ids[i]? with | some k => ρ k v | none => none) i o ∧ o.ver = ok.ver ∧ (∀ b, o.blk (fun i v => match ids[i]? with | some k => ρ k v | none => none) i = some b → ok.blk ρ k = some b) := by
    intro i o ho
    have hi : i < ids.length := by rw [← g1]; exact (List.getElem?_eq_some_iff.1 ho).1
    obtain ⟨o', ho', hr⟩ := g2 i _ (List.getElem?_eq_getElem hi)
    rw [ho] at ho'; injection ho' with ho'; subst ho'
    split at hr
    · rename_i ok hok
      have hpos : posOf ids ids[i] = some i := by
        cases hp : posOf ids ids[i] with
        | none => exact absurd (List.getElem?_eq_getElem hi) (posOf_none hp i)
        | some j => rw [hinj i j _ (List.getElem?_eq_getElem hi) (posOf_ok hp)]
      obtain ⟨k1, k2, k3⟩ := renObj_ok (S' := S) hσ hpos (fun v hv => by simp only [List.getElem?_eq_getElem hi]; exact hv) hr (H.ob _ ok hok) (fun b _ h => h) (.inl fun b h => h)
      exact ⟨ids[i], ok, List.getElem?_eq_getElem hi, hok, k1, k2, k3⟩
    · cases hr
  refine ⟨H.kept, fun i o ho => ?_, fun i j y z hij hy hz b hyb hzb => ?_, fun i o ho b hb => ?_, H.slt, fun i hi v => ?_, fun i o ho v hv => ?_⟩
  · obtain ⟨k, ok, e1, e2, e4, e5, e6⟩ := obj i o ho; exact e4
  · obtain ⟨k, ok, e1, e2, e4, e5, e6⟩ := obj i y hy
    obtain ⟨k', ok', d1, d2, d4, d5, d6⟩ := obj j z hz
    refine H.apart k k' ok ok' (fun e => ?_) e2 d2 b (e6 b hyb) (d6 b hzb)
    subst e; exact hij (hinj i j k e1 d1)
  · obtain ⟨k, ok, e1, e2, e4, e5, e6⟩ := obj i o ho
    exact H.mine k ok e2 b (e6 b hb)
  · have : ids[i]? = none := List.getElem?_eq_none (by omega)
    simp only [this]
  · obtain ⟨k, ok, e1, e2, e4, e5, e6⟩ := obj i o ho
    simp only [e1]; exact H.vers k ok e2 v (by rw [← e5]; exact hv)
/-- Slots and the first n objects. -/
def kp (slots : List Nat) (n : Nat) (s : St) : Option St :=
  match mapO (fun t => (ren (posOf (List.range n)) 4 (lk s.fr t)).map fun x => (t, x)) slots, lentO s.hp (List.range n) with
  | some fr, some hp => some ⟨fr, hp⟩
  | _, _ => none
theorem nodup_range (n : Nat) : nodupB (List.range n) = true := by
  have gen : ∀ (l : List Nat), l.Nodup → nodupB l = true := by
    intro l
    induction l with
    | nil => intro _; rfl
    | cons x l ih => intro h; rw [List.nodup_cons] at h; simp [nodupB, h.1, ih h.2]
  exact gen _ List.nodup_range
theorem kp_ok {slots : List Nat} {n : Nat} {s' : St} (R : Rel F w0 S0 ρ0 N ds s a w) (hn : n ≤ s.hp.length) (h0 : ∀ i v L, ρ0 i v = some L → i < n) (h : kp slots n s = some s') : Rel F w0 S0 ρ0 N ds s' a w := by
  obtain ⟨S, ρ, R⟩ := R
  unfold kp at h
  split at h
  · rename_i fr hp hf hh
    injection h with h; subst h
    obtain ⟨H, hσ⟩ := R.heap.restr (nodup_range n) hh
    refine ⟨S, _, H, fun t => ?_, R.size, R.dfr, R.sin, R.ext.mem, R.ext.st, fun i v L hL => ?_⟩
    · obtain ⟨m1, m2⟩ := mapO_get hf
      have : ∀ (l : List Nat) (m : List (Nat × AV)), m.length = l.length → (∀ (i : Nat) (x : Nat), l[i]? = some x → ∃ y, m[i]? = some y ∧ (ren (posOf (List.range n)) 4 (lk s.fr x)).map (fun z => (x, z)) = some y) → lk m t = .top ∨ ren (posOf (List.range n)) 4 (lk s.fr t) = some (lk m t) := by
        intro l
        induction l with
        | nil => intro m hl _; obtain rfl := List.eq_nil_of_length_eq_zero (by simpa using hl); exact .inl rfl
        | cons x l ih =>
          intro m hl hm
          cases m with
          | nil => simp at hl
          | cons y m =>
            obtain ⟨y', hy, he⟩ := hm 0 x rfl
            simp only [List.getElem?_cons_zero, Option.some.injEq] at hy; subst hy
            obtain ⟨z, hz, rfl⟩ := Option.map_eq_some_iff.1 he
            by_cases e : x = t
            · subst e; right; simp only [lk, if_true]; exact hz
            · simp only [lk, if_neg e]
              exact ih m (by simpa using hl) (fun i x hx => by simpa using hm (i + 1) x (by simpa using hx))
      rcases this slots fr m1 m2 with h | h
      · rw [h]; exact Vl.top _
      · exact ren_vl hσ h (R.fr t)
    · have hi := h0 i v L hL
      have h1 : (List.range n)[i]? = some i := by simp [hi]
      simp only [h1]
      exact R.ext.loc _ _ _ hL
  · cases h
/-- Some slots and some objects, in an order of their own. -/
def kpI (slots ids : List Nat) (s : St) : Option St :=
  match mapO (fun t => (ren (posOf ids) 4 (lk s.fr t)).map fun x => (t, x)) slots, lentO s.hp ids with
  | some fr, some hp => some ⟨fr, hp⟩
  | _, _ => none
theorem kpI_ok {slots ids : List Nat} {s' : St} (R : Rel F w0 S0 ρ0 N ds s a w) (hnd : nodupB ids = true) (h0 : ∀ i v L, ρ0 i v = some L → ids[i]? = some i) (h : kpI slots ids s = some s') : Rel F w0 S0 ρ0 N ds s' a w := by
  obtain ⟨S, ρ, R⟩ := R
  unfold kpI at h
  split at h
  · rename_i fr hp hf hh
    injection h with h; subst h
    obtain ⟨H, hσ⟩ := R.heap.restr hnd hh
    refine ⟨S, _, H, fun t => ?_, R.size, R.dfr, R.sin, R.ext.mem, R.ext.st, fun i v L hL => ?_⟩
    · obtain ⟨m1, m2⟩ := mapO_get hf
      have : ∀ (l : List Nat) (m : List (Nat × AV)), m.length = l.length → (∀ (i : Nat) (x : Nat), l[i]? = some x → ∃ y, m[i]? = some y ∧ (ren (posOf ids) 4 (lk s.fr x)).map (fun z => (x, z)) = some y) → lk m t = .top ∨ ren (posOf ids) 4 (lk s.fr t) = some (lk m t) := by
        intro l
        induction l with
        | nil => intro m hl _; obtain rfl := List.eq_nil_of_length_eq_zero (by simpa using hl); exact .inl rfl
        | cons x l ih =>
          intro m hl hm
          cases m with
          | nil => simp at hl
          | cons y m =>
            obtain ⟨y', hy, he⟩ := hm 0 x rfl
            simp only [List.getElem?_cons_zero, Option.some.injEq] at hy; subst hy
            obtain ⟨z, hz, rfl⟩ := Option.map_eq_some_iff.1 he
            by_cases e : x = t
            · subst e; right; simp only [lk, if_true]; exact hz
            · simp only [lk, if_neg e]
              exact ih m (by simpa using hl) (fun i x hx => by simpa using hm (i + 1) x (by simpa using hx))
      rcases this slots fr m1 m2 with h | h
      · rw [h]; exact Vl.top _
      · exact ren_vl hσ h (R.fr t)
    · have h1 := h0 i v L hL
      simp only [h1]
      exact R.ext.loc _ _ _ hL
  · cases h

/-- Slots that hold nil slices, as rows of the call's own without elements. -/
def nilG : List (Nat × TypeId × Nat) → St → Option St
  | [], s => some s
  | (t, e, sz) :: r, s => match lk s.fr t with
    | .con u => if nilS u then nilG r ⟨(t, .own s.hp.length 0) :: s.fr, s.hp ++ [.row e sz 0 []]⟩ else none
    | _ => none
theorem Rel.nil1 {t : Nat} {e : TypeId} {sz : Nat} {u : Value} (R : Rel F w0 S0 ρ0 N ds s a w) (h : lk s.fr t = .con u) (hn : nilS u = true) : Rel F w0 S0 ρ0 N ds ⟨(t, .own s.hp.length 0) :: s.fr, s.hp ++ [.row e sz 0 []]⟩ a w := by
  obtain ⟨S, ρ, R⟩ := R
  obtain ⟨H', hE⟩ := R.heap.push (w' := w) (S' := S) (ρ' := rset ρ s.hp.length 0 ⟨none, 0, 0, sz⟩) (o' := .row e sz 0 []) (Below.refl _ _) (fun _ h => h) (fun _ h => .inl h) (rset_mono (R.heap.new _ (Nat.le_refl _)) _) (fun i u hi => rset_ne _ _ _ _ (fun e => hi e.1))
    ⟨_, [], rset_self _ _ _ _, rfl, rfl, ⟨by simp, .inl ⟨rfl, rfl, rfl⟩⟩, rfl, fun g hg => by cases hg⟩
    (fun v hv => by simp only [AObj.ver] at hv; rw [rset_ne _ _ _ _ (fun e => by omega)]; exact R.heap.new _ (Nat.le_refl _) v) (fun b hb => by simp only [AObj.blk, rset_self, Option.bind_some, ablk] at hb; cases hb)
  refine ⟨S, _, H', fun t' => ?_, R.size, R.dfr, R.sin, R.ext.trans hE⟩
  simp only [lk]
  split
  · rename_i e1; subst e1
    have hv := R.fr t
    rw [h] at hv
    rw [hv.con.trans (nilS_eq hn)]
    exact .inr ⟨_, .own _ _ _ (rset_self _ _ _ _), rfl⟩
  · exact (R.fr t').ext hE
theorem nilG_ok : ∀ (l : List (Nat × TypeId × Nat)) {s s' : St}, Rel F w0 S0 ρ0 N ds s a w → nilG l s = some s' → Rel F w0 S0 ρ0 N ds s' a w := by
  intro l
  induction l with
  | nil => intro s s' R h; injection h with h; subst h; exact R
  | cons p l ih =>
    intro s s' R h
    obtain ⟨t, e, sz⟩ := p
    simp only [nilG] at h
    split at h
    · rename_i u hu
      split at h
      · rename_i hn; exact ih (R.nil1 hu hn) h
      · cases h
    · cases h
end
end Go.Proofs.Ytbefhofmbiedgaa
