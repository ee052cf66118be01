/- Regions that draw their order: every order does as the text's. Over any program; no condition. -/
import Derived.Test.YtbefhofmbiedgaaA20d
namespace Go.Proofs.Ytbefhofmbiedgaa
set_option linter.all false
open Go.RowKit

section
variable {P : Program} {Φ : Phi} {F : Nat → Prop} {w0 w : World} {S0 S : Nat → Prop} {ρ0 ρ : Rho} {N : Nat} {ds : List Deferred} {s0 : St} {a : Act} {hid : Hid1} {l : List AOper} {ops : Array Oper}
theorem rd_op {o : AOper} {t : Nat} (h : t ∈ o.op.rd) : t ∈ o.rd := List.mem_append_left _ h
theorem rd_grd {o : AOper} {t : Nat} {c : Bool} (h : o.grd = some (t, c)) : t ∈ o.rd := by
  refine List.mem_append_right _ ?_
  rw [h]; simp
abbrev dstL (l : List AOper) (k : Nat) : Option Nat := (l.getD k dflO).dst
abbrev isHL (l : List AOper) (k : Nat) : Bool := (l.getD k dflO).op.isH
abbrev hI (Φ : Phi) (hid : Hid1) (l : List AOper) (s0 : St) (i : Nat) : List AObj := (stI Φ hid l s0 i).1.hp
/-- The state where the operations of D are done. -/
def sD (Φ : Phi) (hid : Hid1) (l : List AOper) (s0 : St) (n : Nat) (D : Nat → Bool) : St := ⟨frD (valI Φ hid l s0) (dstL l) s0.fr D n, hI Φ hid l s0 (hposD (isHL l) D n)⟩
def addD (D : Nat → Bool) (i : Nat) : Nat → Bool := fun k => if k = i then true else D k


section
variable (d : Drawn P Φ N ops hid l s0)
include d
theorem Drawn.act (i : Nat) (hi : i < ops.size) : (∃ x hp p, exD Φ (hid.getD i (0, false)) (l.getD i dflO) ((stI Φ hid l s0 i).2 ++ [(stI Φ hid l s0 i).1.hp.length]) (stI Φ hid l s0 i).1 = some (x, hp, p) ∧ p ∧ valI Φ hid l s0 i = x ∧ hI Φ hid l s0 (i + 1) = hp ∧
    ((l.getD i dflO).grd = none ∨ ∃ t c, (l.getD i dflO).grd = some (t, c) ∧ lk (stI Φ hid l s0 i).1.fr t = .bool c)) ∨
    (valI Φ hid l s0 i = .top ∧ hI Φ hid l s0 (i + 1) = hI Φ hid l s0 i ∧ ∃ t b c, (l.getD i dflO).grd = some (t, b) ∧ lk (stI Φ hid l s0 i).1.fr t = .bool c ∧ c ≠ b) := by
  obtain ⟨x, hp, p, hr, hp'⟩ := d.res i hi
  obtain ⟨e1, e2⟩ := stI_succ hr
  have e3 : hI Φ hid l s0 (i + 1) = hp := by show (stI Φ hid l s0 (i + 1)).1.hp = hp; rw [e1, put_hp]
  unfold resD at hr
  split at hr
  · rename_i hg
    exact .inl ⟨x, hp, p, hr, hp', e2, e3, .inl hg⟩
  · rename_i t b hg
    split at hr
    · rename_i c hc
      split at hr
      · rename_i e
        subst e
        exact .inl ⟨x, hp, p, hr, hp', e2, e3, .inr ⟨t, c, hg, hc⟩⟩
      · rename_i e
        simp only [Option.some.injEq, Prod.mk.injEq] at hr
        obtain ⟨rfl, rfl, rfl⟩ := hr
        exact .inr ⟨e2, e3, t, b, c, hg, hc, e⟩
    · cases hr
theorem Drawn.flat1 (i : Nat) (hi : i < ops.size) (h : isHL l i = false) : hI Φ hid l s0 (i + 1) = hI Φ hid l s0 i := by
  rcases d.act i hi with ⟨x, hp, p, he, hp', e2, e3, _⟩ | ⟨_, e, _⟩
  · unfold exD at he
    rw [if_neg (by rw [show (l.getD i dflO).op.isH = false from h]; exact Bool.false_ne_true)] at he
    split at he
    · simp only [Option.some.injEq, Prod.mk.injEq] at he
      obtain ⟨rfl, rfl, rfl⟩ := he
      exact e3
    · cases he
  · exact e
theorem Drawn.pre1 (i : Nat) (hi : i < ops.size) (h : isHL l i = true → (hid.getD i (0, false)).2 = false) : ∃ t, hI Φ hid l s0 (i + 1) = hI Φ hid l s0 i ++ t := by
  cases hH : isHL l i with
  | false => exact ⟨[], by rw [d.flat1 i hi hH, List.append_nil]⟩
  | true =>
    rcases d.act i hi with ⟨x, hp, p, he, hp', e2, e3, _⟩ | ⟨_, e, _⟩
    · unfold exD at he
      rw [if_pos (show (l.getD i dflO).op.isH = true from hH)] at he
      split at he
      · rw [if_neg (by rw [h hH]; exact Bool.false_ne_true)] at he
        simp only [Option.some.injEq, Prod.mk.injEq] at he
        obtain ⟨rfl, rfl, rfl⟩ := he
        obtain ⟨t, ht⟩ := preB_ok hp'.2
        exact ⟨t, e3.trans ht⟩
      · cases he
    · exact ⟨[], by rw [e, List.append_nil]⟩
theorem Drawn.flat {j : Nat} : ∀ {i : Nat}, j ≤ i → i ≤ ops.size → (∀ k, j ≤ k → k < i → isHL l k = false) → hI Φ hid l s0 i = hI Φ hid l s0 j := by
  intro i
  induction i with
  | zero => intro h _ _; rw [Nat.le_zero.1 h]
  | succ i ih =>
    intro h1 h2 h3
    rcases Nat.lt_or_ge i j with h | h
    · rw [show j = i + 1 by omega]
    · rw [d.flat1 i (by omega) (h3 i h (by omega))]; exact ih h (by omega) fun k k1 k2 => h3 k k1 (by omega)
theorem Drawn.pre {j : Nat} : ∀ {i : Nat}, j ≤ i → i ≤ ops.size → (∀ k, j ≤ k → k < i → isHL l k = true → (hid.getD k (0, false)).2 = false) → ∃ t, hI Φ hid l s0 i = hI Φ hid l s0 j ++ t := by
  intro i
  induction i with
  | zero => intro h _ _; rw [Nat.le_zero.1 h]; exact ⟨[], by simp⟩
  | succ i ih =>
    intro h1 h2 h3
    rcases Nat.lt_or_ge i j with h | h
    · rw [show j = i + 1 by omega]; exact ⟨[], by simp⟩
    · obtain ⟨t, ht⟩ := d.pre1 i (by omega) (h3 i h (by omega))
      obtain ⟨u, hu⟩ := ih h (by omega) fun k k1 k2 => h3 k k1 (by omega)
      exact ⟨u ++ t, by rw [ht, hu, List.append_assoc]⟩
theorem Drawn.txt : ∀ i, i ≤ ops.size → ∀ t, lk (stI Φ hid l s0 i).1.fr t = slotD (valI Φ hid l s0) (dstL l) (lk s0.fr) (fun _ => true) i t := by
  intro i
  induction i with
  | zero => intro _ t; rfl
  | succ i ih =>
    intro hi t
    obtain ⟨x, hp, p, hr, hp'⟩ := d.res i (by omega)
    obtain ⟨e1, e2⟩ := stI_succ hr
    rw [e1, put_lk, pinO_lk, ih (by omega)]
    simp only [slotD, true_and, e2]

variable {D : Nat → Bool} (hD : ClosedD ops D) {i : Nat} {o : Oper} (hi : ops[i]? = some o) (hDi : D i = false) (he : ∀ e ∈ esO o, D e = true)
include hD hi hDi he
theorem Drawn.later {k : Nat} (hk : k < ops.size) (hDk : D k = true) : ¬ ((ancGo ops.toList []).getD k []).contains i = true := by
  intro h
  have ho := Array.getElem?_eq_getElem hk
  have := anc_ok hD ho (fun e h => hD k _ hDk ho e h) h
  rw [hDi] at this; cases this
theorem Drawn.reads {t : Nat} (ht : t ∈ (l.getD i dflO).rd) : lk (sD Φ hid l s0 ops.size D).fr t = lk (stI Φ hid l s0 i).1.fr t := by
  have hin : i < ops.size := (Array.getElem?_eq_some_iff.1 hi).1
  show lk (frD _ _ _ _ _) t = _
  rw [frD_lk, d.txt i (by omega)]
  by_cases hk : ∃ k, k < ops.size ∧ k ≠ i ∧ dstL l k = some t
  · obtain ⟨k, hk, hne, hkd⟩ := hk
    rcases d.slot i k t hin hk hne ht hkd with ⟨h1, h2⟩ | ⟨h1, h2⟩
    · have hDk := anc_ok hD hi he h2
      rw [slotD_in (fun a b ha hb h1 h2 => d.uniq a b t ha hb h1 h2) hk hDk hkd, slotD_in (fun a b ha hb h1 h2 => d.uniq a b t (by omega) (by omega) h1 h2) h1 rfl hkd]
    · rw [slotD_out (fun k' hk' hD' hd' => ?_), slotD_out (fun k' hk' _ hd' => ?_)]
      · have := d.uniq k' k t (by omega) hk hd' hkd
        omega
      · have := d.uniq k' k t hk' hk hd' hkd
        subst this
        exact d.later hD hi hDi he hk' hD' h2
  · rw [slotD_out (fun k' hk' hD' hd' => hk ⟨k', hk', (fun e => by rw [e, hDi] at hD'; cases hD'), hd'⟩), slotD_out (fun k' hk' _ hd' => hk ⟨k', by omega, by omega, hd'⟩)]
theorem Drawn.heapH (hH : isHL l i = true) : hI Φ hid l s0 (hposD (isHL l) D ops.size) = hI Φ hid l s0 i := by
  have hin : i < ops.size := (Array.getElem?_eq_some_iff.1 hi).1
  have hle : hposD (isHL l) D ops.size ≤ i := by
    rcases hposD_last (isH := isHL l) (D := D) (n := ops.size) with h | ⟨m, h1, h2, h3, h4⟩
    · omega
    · have : m ≠ i := by rintro rfl; rw [hDi] at h3; cases h3
      rcases Nat.lt_or_ge m i with h | h
      · omega
      · exact absurd (d.tot m i h1 (by omega) h4 hH) (d.later hD hi hDi he h1 h3)
  refine (d.flat hle (by omega) fun k h1 h2 => ?_).symm
  cases hk : isHL l k with
  | false => rfl
  | true =>
    have := hposD_gt (D := D) (show k < ops.size by omega) (anc_ok hD hi he (d.tot i k hin h2 hH hk)) hk
    omega
theorem Drawn.heapH' (hH : isHL l i = true) : hposD (isHL l) (addD D i) ops.size = i + 1 := by
  have hin : i < ops.size := (Array.getElem?_eq_some_iff.1 hi).1
  have h0 := hposD_gt (D := addD D i) hin (by simp [addD]) hH
  rcases hposD_last (isH := isHL l) (D := addD D i) (n := ops.size) with h | ⟨m, h1, h2, h3, h4⟩
  · omega
  · rcases Nat.lt_or_ge i m with h | h
    · have h3' : D m = true := by simpa [addD, show m ≠ i by omega] using h3
      exact absurd (d.tot m i h1 h h4 hH) (d.later hD hi hDi he h1 h3')
    · omega
omit d hD hi hDi he in
theorem hposD_add (hH : isHL l i = false) : ∀ n, hposD (isHL l) (addD D i) n = hposD (isHL l) D n := by
  intro n
  induction n with
  | zero => rfl
  | succ n ih =>
    simp only [hposD, ih]
    by_cases e : n = i
    · subst e; rw [hH]; simp
    · simp [addD, e]
theorem Drawn.heapV (hH : isHL l i = false) : ∃ t, hI Φ hid l s0 (hposD (isHL l) D ops.size) = hI Φ hid l s0 (hid.getD i (0, false)).1 ++ t := by
  have hin : i < ops.size := (Array.getElem?_eq_some_iff.1 hi).1
  have hpos := d.pos i hin
  generalize hq : hposD (isHL l) D ops.size = q
  rcases Nat.lt_or_ge q (hid.getD i (0, false)).1 with hlt | hge
  · refine ⟨[], ?_⟩
    rw [List.append_nil]
    refine (d.flat (Nat.le_of_lt hlt) (by omega) fun k h1 h2 => ?_).symm
    cases hk : isHL l k with
    | false => rfl
    | true =>
      have := hposD_gt (D := D) (show k < ops.size by omega) (anc_ok hD hi he (d.posA i k hin h2 hk)) hk
      omega
  · have hqn : q ≤ ops.size := by rw [← hq]; exact hposD_le _
    refine d.pre hge hqn fun k h1 h2 hk => ?_
    have hDk : D k = true := by
      rcases hposD_last (isH := isHL l) (D := D) (n := ops.size) with h | ⟨m, m1, m2, m3, m4⟩
      · omega
      · rcases Nat.lt_or_ge k m with h | h
        · have ho := Array.getElem?_eq_getElem m1
          exact anc_ok hD ho (fun e he => hD m _ m3 ho e he) (d.tot m k m1 h m4 hk)
        · have : k = m := by omega
          subst this; exact m3
    rcases Nat.lt_or_ge k i with h | h
    · exact d.posB i k hin h h1 hk
    · cases hb : (hid.getD k (0, false)).2 with
      | false => rfl
      | true =>
        have hne : k ≠ i := by rintro rfl; rw [hDi] at hDk; cases hDk
        exact absurd ((d.bar k (by omega) hb).1 i (by omega)) (d.later hD hi hDi he (by omega) hDk)
/-- One operation, at any time at which it may be done. -/
theorem Drawn.one {F : Nat → Prop} {w0 w : World} {S0 : Nat → Prop} {ρ0 : Rho} {ds : List Deferred} {a : Act} {K : Act → World → Prop} {Q : Exit → Act → World → Prop} (hΦ : PhiOk P Φ) (R : Rel F w0 S0 ρ0 N ds (sD Φ hid l s0 ops.size D) a w)
    (hK : ∀ a' w', Rel F w0 S0 ρ0 N ds (sD Φ hid l s0 ops.size (addD D i)) a' w' → K a' w') : wpOp P ops Q i K a w := by
  have hin : i < ops.size := (Array.getElem?_eq_some_iff.1 hi).1
  obtain ⟨hd, hop, hdN, hg⟩ := d.mt i o hi
  have rds := fun {t : Nat} (ht : t ∈ (l.getD i dflO).rd) => d.reads hD hi hDi he ht
  have uq : ∀ (a b t : Nat), a < ops.size → b < ops.size → dstL l a = some t → dstL l b = some t → a = b := fun a b t ha hb h1 h2 => d.uniq a b t ha hb h1 h2
  -- what a step leaves
  have put : ∀ (x : AV) (hp : List AObj), valI Φ hid l s0 i = x → hp = hI Φ hid l s0 (hposD (isHL l) (addD D i) ops.size) → ∀ a' w', Rel F w0 S0 ρ0 N ds ((sD Φ hid l s0 ops.size D).put o.dst x hp) a' w' → Rel F w0 S0 ρ0 N ds (sD Φ hid l s0 ops.size (addD D i)) a' w' := by
    intro x hp hx hhp a' w' R'
    refine R'.congr (fun t => ?_) (by rw [put_hp]; exact hhp)
    rw [put_lk, hd]
    show _ = lk (frD _ _ _ _ _) t
    rw [frD_lk]
    have := slotD_put (X := valI Φ hid l s0) (dst := dstL l) (D := D) (base := lk s0.fr) hin uq hDi t
    unfold addD
    rw [this, hx]
    show (if _ then _ else lk (frD _ _ _ _ _) t) = _
    rw [frD_lk]
  unfold wpOp
  rw [hi]
  simp only
  rcases d.act i hin with ⟨x, hp, p, hex, hp', e2, e3, hgr⟩ | ⟨e2, e3, t, b, c, hgr, hlk, hcb⟩
  · have hw : Region.wanted o (yielded ops a.tmps) = true := by
      rcases hgr with hgr | ⟨t, c, hgr, hlk⟩
      · rw [hgr] at hg
        cases hog : o.guard with
        | none => simp [Region.wanted, hog]
        | some g => rw [hog] at hg; exact hg.elim
      · rw [hgr] at hg
        cases hog : o.guard with
        | none => rw [hog] at hg; exact hg.elim
        | some g =>
          obtain ⟨g, b'⟩ := g
          rw [hog] at hg
          obtain ⟨rfl, hgt, htN⟩ := hg
          obtain ⟨S, ρ, R0⟩ := R
          have hv := R0.fr t
          rw [rds (rd_grd hgr), hlk] at hv
          rw [wanted_of hog hgt (by rw [R0.size]; exact htN) hv.bool]
          simp
    rw [if_pos hw]
    refine .inl ?_
    unfold exD at hex
    cases hH : isHL l i with
    | true =>
      rw [if_pos (show (l.getD i dflO).op.isH = true from hH)] at hex
      have hst : ∃ p', astep Φ (stI Φ hid l s0 i).1 (l.getD i dflO).op = some (x, hp, p') ∧ p' := by
        split at hex
        · split at hex
          · simp only [Option.some.injEq, Prod.mk.injEq] at hex
            obtain ⟨rfl, rfl, rfl⟩ := hex
            exact ⟨_, by assumption, hp'⟩
          · simp only [Option.some.injEq, Prod.mk.injEq] at hex
            obtain ⟨rfl, rfl, rfl⟩ := hex
            exact ⟨_, by assumption, hp'.1⟩
        · cases hex
      obtain ⟨p', hs, hp1⟩ := hst
      rw [astep_congr (s' := sD Φ hid l s0 ops.size D) (d.heapH hD hi hDi he hH).symm (fun t ht => (rds (rd_op ht)).symm)] at hs
      exact astep_ok hΦ R hop hs hp1 hdN fun a' w' R' => hK a' w' (put x hp e2 (by rw [d.heapH' hD hi hDi he hH]; exact e3.symm) a' w' R')
    | false =>
      rw [if_neg (by rw [show (l.getD i dflO).op.isH = false from hH]; exact Bool.false_ne_true)] at hex
      split at hex
      · rename_i x' p' hv
        simp only [Option.some.injEq, Prod.mk.injEq] at hex
        obtain ⟨rfl, rfl, rfl⟩ := hex
        have hpos := d.pos i hin
        obtain ⟨hl1, hl2⟩ := stI_lens Φ hid l s0 i
        have hlen : (((stI Φ hid l s0 i).2 ++ [(stI Φ hid l s0 i).1.hp.length]).getD (hid.getD i (0, false)).1 0) = (hI Φ hid l s0 (hid.getD i (0, false)).1).length := by
          rcases Nat.lt_or_ge (hid.getD i (0, false)).1 i with h | h
          · rw [List.getD_eq_getElem?_getD, List.getElem?_append_left (by rw [hl1]; exact h), ← List.getD_eq_getElem?_getD]; exact hl2 _ h
          · have e : (hid.getD i (0, false)).1 = i := by omega
            rw [e, List.getD_eq_getElem?_getD, List.getElem?_append_right (by rw [hl1]; exact Nat.le_refl _), hl1]; simp
        obtain ⟨t1, ht1⟩ := d.pre hpos (by omega) fun k h1 h2 hk => d.posB i k hin h2 h1 hk
        obtain ⟨t2, ht2⟩ := d.heapV hD hi hDi he hH
        have htk : (stI Φ hid l s0 i).1.hp.take (((stI Φ hid l s0 i).2 ++ [(stI Φ hid l s0 i).1.hp.length]).getD (hid.getD i (0, false)).1 0) = hI Φ hid l s0 (hid.getD i (0, false)).1 := by
          rw [hlen]
          show (hI Φ hid l s0 i).take _ = _
          rw [ht1, List.take_append_of_le_length (Nat.le_refl _), List.take_length]
        rw [htk] at hv
        obtain ⟨S, ρ, R0⟩ := R
        have hobs : ObsOk w S ρ (hI Φ hid l s0 (hid.getD i (0, false)).1) := fun id ob h _ => R0.heap.ob id ob (by
          show (hI Φ hid l s0 (hposD (isHL l) D ops.size))[id]? = _
          rw [ht2, List.getElem?_append_left (List.getElem?_eq_some_iff.1 h).1]; exact h)
        rw [aval_congr (s := ⟨(stI Φ hid l s0 i).1.fr, hI Φ hid l s0 (hid.getD i (0, false)).1⟩) (s' := ⟨(sD Φ hid l s0 ops.size D).fr, hI Φ hid l s0 (hid.getD i (0, false)).1⟩) rfl (fun t ht => (rds (rd_op ht)).symm)] at hv
        have hmt : Mt P o.op (l.getD i dflO).op := by
          have hH' : (l.getD i dflO).op.isH = false := hH
          revert hop hH'
          cases (l.getD i dflO).op <;> intro hop hH' <;> first | exact hop | cases hH'
        obtain ⟨q, hq, hvl⟩ := aval_ok (s := ⟨(sD Φ hid l s0 ops.size D).fr, hI Φ hid l s0 (hid.getD i (0, false)).1⟩) hobs R0.fr hmt hv hp'
        unfold Oper.wp
        rw [hq, Oper.upon_value]
        refine hK _ _ (put x' (sD Φ hid l s0 ops.size D).hp e2 (by rw [hposD_add hH]; rfl) _ _ ⟨S, ρ, R0.next R0.heap (Ext.refl _ _ _) (fun _ h => .inl h) hdN hvl⟩)
      · cases hex
  · have hw : Region.wanted o (yielded ops a.tmps) = false := by
      rw [hgr] at hg
      cases hog : o.guard with
      | none => rw [hog] at hg; exact hg.elim
      | some g =>
        obtain ⟨g, b'⟩ := g
        rw [hog] at hg
        obtain ⟨rfl, hgt, htN⟩ := hg
        obtain ⟨S, ρ, R0⟩ := R
        have hv := R0.fr t
        rw [rds (rd_grd hgr), hlk] at hv
        rw [wanted_of hog hgt (by rw [R0.size]; exact htN) hv.bool]
        simpa using hcb
    rw [if_neg (by rw [hw]; exact Bool.false_ne_true)]
    refine hK _ _ (put .top (sD Φ hid l s0 ops.size D).hp e2 ?_ _ _ (R.skip hdN))
    show hI Φ hid l s0 _ = _
    cases hH : isHL l i with
    | false => rw [hposD_add hH]
    | true => rw [d.heapH' hD hi hDi he hH, e3, d.heapH hD hi hDi he hH]
end

def cntD (D : Nat → Bool) : Nat → Nat
  | 0 => 0
  | n + 1 => cntD D n + if D n = true then 0 else 1
theorem cntD_le {D : Nat → Bool} : ∀ n, cntD D n ≤ n := by
  intro n
  induction n with
  | zero => exact Nat.le_refl _
  | succ n ih => simp only [cntD]; split <;> omega
theorem cntD_zero {D : Nat → Bool} : ∀ {n : Nat}, cntD D n = 0 → ∀ k, k < n → D k = true := by
  intro n
  induction n with
  | zero => intro _ k hk; omega
  | succ n ih =>
    intro h k hk
    simp only [cntD] at h
    split at h
    · rename_i hn
      rcases Nat.lt_or_ge k n with h1 | h1
      · exact ih (by omega) k h1
      · rw [show k = n by omega]; exact hn
    · omega
theorem cntD_add {D : Nat → Bool} {i : Nat} (hi : D i = false) : ∀ {n : Nat}, cntD (addD D i) n + (if i < n then 1 else 0) = cntD D n := by
  intro n
  induction n with
  | zero => simp [cntD]
  | succ n ih =>
    simp only [cntD]
    by_cases e : n = i
    · subst e
      rw [if_neg (Nat.lt_irrefl _)] at ih
      simp [addD, hi] at ih ⊢; omega
    · have e1 : addD D i n = D n := by simp [addD, e]
      rw [e1]
      by_cases h : i < n
      · rw [if_pos h] at ih; rw [if_pos (show i < n + 1 by omega)]; omega
      · rw [if_neg h] at ih; rw [if_neg (show ¬ i < n + 1 by omega)]; omega
theorem adraw_ok (hΦ : PhiOk P Φ) {id : Nat} {Q : Exit → Act → World → Prop} {K : St → Prop} (hm : All2 (MtO P N ops) ops.toList l) (hd : drawOk P ops hid l) (h : drawQ Φ hid l K s0) (R : Rel F w0 S0 ρ0 N ds s0 a w)
    (hK : ∀ s a w, K s → Rel F w0 S0 ρ0 N ds s a w → Q .normal a w) : (Code.region id ops true).wp P Q a w := by
  obtain ⟨d, hk⟩ := drawn_of hm hd.2 h
  -- where all is done
  have fin : ∀ (D : Nat → Bool) (a : Act) (w : World), (∀ k, k < ops.size → D k = true) → Rel F w0 S0 ρ0 N ds (sD Φ hid l s0 ops.size D) a w → Q .normal a w := by
    intro D a w hall R
    refine hK _ a w hk (R.congr (fun t => ?_) ?_)
    · show lk (frD _ _ _ _ _) t = _
      rw [frD_lk, d.txt _ (Nat.le_refl _)]
      have gen : ∀ n, n ≤ ops.size → slotD (valI Φ hid l s0) (dstL l) (lk s0.fr) D n t = slotD (valI Φ hid l s0) (dstL l) (lk s0.fr) (fun _ => true) n t := by
        intro n
        induction n with
        | zero => intro _; rfl
        | succ n ih => intro hn; simp only [slotD, hall n (by omega), ih (by omega)]
      exact gen _ (Nat.le_refl _)
    · show hI Φ hid l s0 _ = hI Φ hid l s0 ops.size
      refine (d.flat (hposD_le _) (Nat.le_refl _) fun k h1 h2 => ?_).symm
      cases hk : isHL l k with
      | false => rfl
      | true => have := hposD_gt h2 (hall k h2) hk; omega
  have rdy : ∀ (listed : Array Bool), listed.size = ops.size → Region.ready .any ops listed = [] → ∀ k, k < ops.size → listed.getD k false = true := by
    intro listed hs hr k
    induction k using Nat.strongRecOn with
    | _ k ih =>
      intro hk
      cases hb : listed.getD k false with
      | true => rfl
      | false =>
        have : k ∈ Region.ready .any ops listed := by
          rw [mem_ready]
          refine ⟨?_, ops[k], Array.getElem?_eq_getElem hk, fun e he hb => ?_⟩
          · simpa [hs, hk] using hb
          · have := d.edge k _ (Array.getElem?_eq_getElem hk) e.on (by
              unfold esO
              rw [List.mem_filterMap]
              exact ⟨e, by simpa using he, by rw [if_pos hb]⟩)
            exact ih _ this (by omega)
        rw [hr] at this; cases this
  have go : ∀ (fuel : Nat) (listed : Array Bool) (a : Act) (w : World), listed.size = ops.size → ClosedD ops (fun k => listed.getD k false) → cntD (fun k => listed.getD k false) ops.size ≤ fuel → Rel F w0 S0 ρ0 N ds (sD Φ hid l s0 ops.size fun k => listed.getD k false) a w → wpAny P .any ops Q fuel listed a w := by
    intro fuel
    induction fuel with
    | zero =>
      intro listed a w hs hc hn R
      have hall := cntD_zero (Nat.le_zero.1 hn)
      refine ⟨?_, fin _ a w hall R⟩
      cases hr : Region.ready .any ops listed with
      | nil => rfl
      | cons x xs =>
        have hx : x ∈ Region.ready .any ops listed := by rw [hr]; simp
        obtain ⟨h1, o, h2, _⟩ := mem_ready.1 hx
        have hxn := (Array.getElem?_eq_some_iff.1 h2).1
        have := hall x hxn
        simp [hs, hxn] at h1 this
        rw [h1] at this; cases this
    | succ fuel ih =>
      intro listed a w hs hc hn R
      refine ⟨fun hr => fin _ a w (rdy listed hs hr) R, fun i hi => ?_⟩
      obtain ⟨h1, o, h2, h3⟩ := mem_ready.1 hi
      have hin := (Array.getElem?_eq_some_iff.1 h2).1
      have hDi : listed.getD i false = false := by simpa [hs, hin] using h1
      have hes : ∀ e ∈ esO o, listed.getD e false = true := by
        intro e he
        unfold esO at he
        rw [List.mem_filterMap] at he
        obtain ⟨e', he', hb⟩ := he
        split at hb
        · injection hb with hb; subst hb; exact h3 e' (by simpa using he') (by assumption)
        · cases hb
      have hset : (fun k => (listed.setIfInBounds i true).getD k false) = addD (fun k => listed.getD k false) i := by
        funext k
        by_cases e : k = i
        · subst e; simp [addD, hs, hin]
        · rw [getD_set_ne false (Ne.symm e)]; simp [addD, e]
      refine d.one hc h2 hDi hes hΦ R fun a' w' R' => ih _ a' w' (by simpa using hs) ?_ ?_ ?_
      · rw [hset]
        intro k o' hk ho' e he
        by_cases ek : k = i
        · subst ek
          rw [h2] at ho'; injection ho' with ho'; subst ho'
          unfold addD; split
          · rfl
          · exact hes e he
        · have := hc k o' (by simpa [addD, ek] using hk) ho' e he
          unfold addD; split
          · rfl
          · exact this
      · rw [hset]
        have := cntD_add (D := fun k => listed.getD k false) (i := i) (n := ops.size) hDi
        rw [if_pos hin] at this; omega
      · rw [hset]; exact R'
  refine wp_region_any hd.1 (go _ _ _ _ (by simp) (fun k o hk _ => ?_) (cntD_le _) ?_)
  · exfalso
    have hk' : (Array.replicate ops.size false).getD k false = true := hk
    rcases Nat.lt_or_ge k ops.size with h | h <;> simp [h] at hk'
  · have hf : (fun k => (Array.replicate ops.size false).getD k false) = fun _ => false := by
      funext k
      rcases Nat.lt_or_ge k ops.size with h | h <;> simp [h]
    rw [hf]
    have R' : Rel F w0 S0 ρ0 N ds s0 a { w with drawn := w.drawn + 1 } := by
      obtain ⟨S, ρ, R⟩ := R
      obtain ⟨H', hE⟩ := R.heap.same (w' := { w with drawn := w.drawn + 1 }) (S' := S) ⟨rfl, rfl, rfl, Nat.le_refl _, fun _ _ => rfl⟩ (fun _ h => h) (fun _ h => .inl h)
      exact ⟨S, ρ, H', R.fr.ext hE, R.size, R.dfr, R.sin, R.ext.trans hE⟩
    refine R'.congr (fun t => ?_) ?_
    · show _ = lk (frD _ _ _ _ _) t
      rw [frD_lk, slotD_out]
      intro k _ h; cases h
    · show _ = hI Φ hid l s0 _
      have : hposD (isHL l) (fun _ => false) ops.size = 0 := by
        rcases hposD_last (isH := isHL l) (D := fun _ => false) (n := ops.size) with h | ⟨m, _, _, h, _⟩
        · exact h
        · cases h
      rw [this]; rfl
end
end Go.Proofs.Ytbefhofmbiedgaa
