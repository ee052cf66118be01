/- Operations that turn one object: a store, an append to a row of the call's own. Over any program; no condition. -/
import Derived.Test.YtbefhofmbiedgaaA12
namespace Go.Proofs.Ytbefhofmbiedgaa
set_option linter.all false
open Go.RowKit

/-- Writing a variable at an offset of parts. -/
def wrP (rt : Rt) (ps : List (Nat × AV)) (o off : Nat) (x : AV) : Option (List (Nat × AV) × Prop) :=
  match rt with
  | .one _ => match pt ps o with
    | some (n, .blob cs) => match toV x with
      | some v => (spl ps o n [(n, .blob (cs.set off v))]).map fun q => (q, off < cs.length)
      | none => none
    | some (n, _) => if off = 0 ∧ n = 1 ∧ x.one = true then (spl ps o 1 [(1, x)]).map fun q => (q, True) else none
    | none => none
  | .arr n => if off = 0 then match szOk n x, spl ps o n (pparts n x) with
    | some p, some q => some (q, p)
    | _, _ => none else none
  | .st n => if off = 0 then match szOk n x, spl ps o n (pparts n x) with
    | some p, some q => some (q, p)
    | _, _ => none else none
/-- An element out of its parts. -/
def unparts (X : AV) (ps : List (Nat × AV)) : Option AV :=
  match X with
  | .agg _ => some (.agg ps)
  | _ => match ps with
    | [(_, y)] => match y with
      | .agg _ => none
      | y => some y
    | _ => none
def aeff (s : St) : AOp → Option (AV × Nat × AObj × Prop)
  | .st rt a x => match s.ev a with
    | .ref id o off => match s.hp[id]? with
      | some (.cells t ps) => (wrP rt ps o off (s.ev x)).map fun (q : List (Nat × AV) × Prop) => (.top, id, .cells t q.1, q.2)
      | _ => none
    | .rowp id v i z o off => match s.hp[id]? with
      | some (.row e sz v' xs) => if v = v' ∧ pureB 4 (s.ev x) = true then match wrP rt (pparts sz (xs.getD i z)) o off (s.ev x) with
        | some (q, p) => match unparts (xs.getD i z) q with
          | some X => some (.top, id, .row e sz v (xs.set i X), p ∧ i < xs.length)
          | none => none
        | none => none else none
      | _ => none
    | _ => none
  | .app e sz bytes x y => match s.ev x with
    | .own id v => match s.hp[id]?, view s.hp sz (s.ev y) with
      | some (.row e' s' v' xs), some ys => if v = v' ∧ e = e' ∧ s' = sz then some (.own id (v + 1), id, .row e sz (v + 1) (xs ++ ys), (xs ++ ys).length ≤ 9223372036854775807 ∧ (xs ++ ys).length * bytes ≤ 140737488355328) else none
      | _, _ => none
    | .ownv id v 0 m => match s.hp[id]?, view s.hp sz (s.ev y) with
      | some (.row e' s' v' xs), some ys => if v = v' ∧ e = e' ∧ s' = sz then some (.own id (v + 1), id, .row e sz (v + 1) (xs.take m ++ ys), m ≤ xs.length ∧ (xs.take m ++ ys).length ≤ 9223372036854775807 ∧ (xs.take m ++ ys).length * bytes ≤ 140737488355328) else none
      | _, _ => none
    | _ => none
  | .mark x => match s.ev x with
    | .own id v => match s.hp[id]? with
      | some (.row e sz v' xs) => if v = v' then some (.own id v, id, .row e sz v' xs, 0 < xs.length) else none
      | _ => none
    | _ => none
  | _ => none

section
variable {P : Program} {F : Nat → Prop} {w0 w : World} {S : Nat → Prop} {ρ : Rho}
theorem splice_set (us cs : List Value) (o n off : Nat) (v : Value) (h : (us.drop o).take n = cs) (hl : o + n ≤ us.length) (ho : off < cs.length) :
    us.take o ++ cs.set off v ++ us.drop (o + n) = us.take (o + off) ++ [v] ++ us.drop (o + off + 1) := by
  have hcl : cs.length = n := by rw [← h, List.length_take, List.length_drop]; omega
  have hu : us = us.take o ++ (cs ++ us.drop (o + n)) := by
    rw [← h, ← List.drop_drop, List.take_append_drop, List.take_append_drop]
  have h1 : us.set (o + off) v = us.take o ++ cs.set off v ++ us.drop (o + n) := by
    conv => lhs; rw [hu]
    rw [List.set_append_right _ _ (by rw [List.length_take]; omega), List.length_take, Nat.min_eq_left (by omega), Nat.add_sub_cancel_left, List.set_append_left _ _ ho, List.append_assoc]
  rw [← h1, List.set_eq_take_append_cons_drop, if_pos (by omega)]
  simp
theorem take_splice (c vs : List Value) (N k : Nat) (h : k + vs.length ≤ N) (hN : N ≤ c.length) : (c.take k ++ vs ++ c.drop (k + vs.length)).take N = (c.take N).take k ++ vs ++ (c.take N).drop (k + vs.length) := by
  have h1 : (c.take k ++ vs).length = k + vs.length := by rw [List.length_append, List.length_take]; omega
  rw [List.take_append, List.take_of_length_le (by omega), h1, List.drop_take, List.take_take, Nat.min_eq_left (by omega)]
theorem wrP_ok {rt : Rt} {ps qs : List (Nat × AV)} {o off : Nat} {x : AV} {p : Prop} {us : List Value} {v : Value} (h : Css w S ρ ps us) (hw : wrP rt ps o off x = some (qs, p)) (hp : p) (hx : Vl w S ρ x v) :
    ∃ vs, v.cells.toList = vs ∧ vs.length = rt.size ∧ (∀ u ∈ vs, u.oneCell' = true) ∧ o + off + rt.size ≤ us.length ∧ Css w S ρ qs (us.take (o + off) ++ vs ++ us.drop (o + off + rt.size)) := by
  have big : ∀ n, off = 0 → (match szOk n x, spl ps o n (pparts n x) with | some p, some q => some (q, p) | _, _ => none) = some (qs, p) →
      ∃ vs, v.cells.toList = vs ∧ vs.length = n ∧ (∀ u ∈ vs, u.oneCell' = true) ∧ o + off + n ≤ us.length ∧ Css w S ρ qs (us.take (o + off) ++ vs ++ us.drop (o + off + n)) := by
    intro n h0 he
    subst h0
    split at he
    · rename_i p' q hs hq
      simp only [Option.some.injEq, Prod.mk.injEq] at he
      obtain ⟨rfl, rfl⟩ := he
      have hne : x ≠ .top := by intro e; rw [e] at hs; cases hs
      have hnt : ∀ xs, x ≠ .tup xs := by intro xs e; rw [e] at hs; cases hs
      obtain ⟨vs, hc, hv⟩ := hx.cs hne hnt
      have hl := szOk_ok hc hs hp
      obtain ⟨k1, k2⟩ := spl_ok h (Css.single hc hl) hq
      have hcl := cells_wrapv hc (hc.multi_or hne)
      rw [← hv] at hcl
      exact ⟨vs, hcl, hl, hc.one, by simpa using k2, by simpa using k1⟩
    · cases he
  unfold wrP at hw
  split at hw
  · split at hw
    · rename_i n cs hq
      split at hw
      · rename_i u hu
        obtain ⟨q, hq2, e⟩ := Option.map_eq_some_iff.1 hw
        injection e with e1 e2; subst e1 e2
        obtain ⟨hv, h1⟩ := toV_ok hu hx
        obtain ⟨k1, k2⟩ := pt_ok h hq
        have k1' : (us.drop o).take n = cs ∧ ∀ u ∈ cs, u.oneCell' = true := by
          generalize hg : (us.drop o).take n = ws at k1
          cases k1 with
          | blob _ hb => exact ⟨rfl, hb⟩
        have hcl : cs.length = n := by rw [← k1'.1, List.length_take, List.length_drop]; omega
        have hcs : Css w S ρ [(n, .blob (cs.set off u))] (cs.set off u) := ⟨_, [], by simp, by simp [hcl], .blob _ (fun y hy => by
          rcases List.mem_or_eq_of_mem_set hy with hy | rfl
          · exact k1'.2 y hy
          · exact h1), rfl⟩
        obtain ⟨s1, s2⟩ := spl_ok h hcs hq2
        have hvc : v.cells.toList = [u] := by rw [hv]; cases u <;> first | rfl | cases h1
        refine ⟨[u], hvc, rfl, by simpa using h1, by simp only [Rt.size]; omega, ?_⟩
        rw [splice_set us cs o n off u k1'.1 k2 hp] at s1
        exact s1
      · cases hw
    · rename_i n y hne hq
      split at hw
      · rename_i e; obtain ⟨rfl, rfl, h1⟩ := e
        obtain ⟨q, hq2, e⟩ := Option.map_eq_some_iff.1 hw
        injection e with e1 e2; subst e1 e2
        have hc := hx.cs1 h1
        have hs1 : Css w S ρ [(1, x)] [v] := ⟨[v], [], rfl, rfl, hc, rfl⟩
        obtain ⟨s1, s2⟩ := spl_ok h hs1 hq2
        have ho := hc.one v (by simp)
        have hvc : v.cells.toList = [v] := by cases v <;> first | rfl | cases ho
        exact ⟨[v], hvc, rfl, by simpa using ho, by simp only [Rt.size]; omega, by simpa [Rt.size] using s1⟩
      · cases hw
    · cases hw
  · split at hw
    · rename_i n e; exact big n e hw
    · cases hw
  · split at hw
    · rename_i n e; exact big n e hw
    · cases hw
theorem Css.setElem {sz : Nat} {X' : AV} {el : List Value} (hc : Cs w S ρ X' el) (hl : el.length = sz) : ∀ (xs : List AV) (us : List Value) (i : Nat), Css w S ρ (prs sz xs) us → i < xs.length →
    Css w S ρ (prs sz (xs.set i X')) (us.take (i * sz) ++ el ++ us.drop (i * sz + sz)) := by
  intro xs
  induction xs with
  | nil => intro us i _ h; simp at h
  | cons x xs ih =>
    intro us i h hi
    obtain ⟨u1, u2, rfl, h1, h2, h3⟩ := h
    cases i with
    | zero =>
      refine ⟨el, u2, ?_, hl, hc, h3⟩
      simp only [Nat.zero_mul, List.take_zero, List.nil_append, Nat.zero_add]
      rw [← h1, List.drop_left]
    | succ i =>
      refine ⟨u1, u2.take (i * sz) ++ el ++ u2.drop (i * sz + sz), ?_, h1, h2, ih u2 i h3 (by simpa using hi)⟩
      rw [Nat.add_mul, Nat.one_mul, List.take_append, List.take_of_length_le (by omega), List.drop_append, List.drop_of_length_le (show u1.length ≤ i * sz + sz + sz by omega), List.nil_append, h1,
        show i * sz + sz - sz = i * sz by omega, show i * sz + sz + sz - sz = i * sz + sz by omega]
      simp only [List.append_assoc]
theorem unparts_ok {X Y : AV} {sz : Nat} {qs : List (Nat × AV)} {us : List Value} (h : unparts X qs = some Y) (hc : Css w S ρ qs us) (hl : us.length = sz) : Cs w S ρ Y us := by
  unfold unparts at h
  split at h
  · injection h with h; subst h; exact hc.cs
  · split at h
    · rename_i n y
      have : Y = y := by
        split at h
        · cases h
        · injection h with h; exact h.symm
      subst this
      obtain ⟨u1, u2, rfl, h1, h2, h3⟩ := hc
      obtain rfl := h3
      simpa using h2
    · cases h
theorem run_storeVar_row {t : TypeId} {rt : Rt} (ht : RtOk P t rt) {g o : Nat} {e : TypeId} {fr : Nat × Nat} {cs : Array Value} (hg : w.heap[g]? = some (.cells cs e fr)) (hf : ∀ j, j < cs.size → ¬ (fr.1 ≤ j ∧ j < fr.2))
    {v : Value} {vs : List Value} (hv : v.cells.toList = vs) (hl : vs.length = rt.size) (h1 : ∀ u ∈ vs, u.oneCell' = true) (hb : o + rt.size ≤ cs.size) :
    (Instr.storeAt t (.pointer (some ⟨g, o, none⟩)) v).run P w = .ok () (w.setCells g o vs) := by
  have hst := run_storeCells_row (P := P) g o e fr vs cs hg (by omega) hf h1
  have hsz : ¬ v.cells.size ≠ rt.size := by rw [← Array.length_toList, hv, hl]; simp
  simp only [Instr.storeAt, Instr.sureAddr, Sem.run_bind, Sem.run_pure, Result.andThen_ok, storeVar, ht.size, if_neg hsz, hv]
  exact hst

theorem aeff_ok {s : St} {a : Act} {o : Oper} {ao : AOp} {x : AV} {id : Nat} {ob' : AObj} {p : Prop} (H : HeapOk F w0 S ρ s.hp w) (hf : FrOk w S ρ s.fr a.tmps)
    (hm : Mt2 P o.op ao ∨ ∃ t A X rt, ao = .st rt (opd A) (opd X) ∧ o.op = .store t A X ∧ RtOk P t rt) (h : aeff s ao = some (x, id, ob', p)) (hp' : p) :
    ∃ q w' ρ', ((execOp a.eval o).run P w = .ok (.value q) w' ∨ ((execOp a.eval o).run P w = .ok .skip w' ∧ q = undef)) ∧ Vl w' S ρ' x q ∧ HeapOk F w0 S ρ' (s.hp.set id ob') w' ∧ Ext w w' S S ρ ρ' := by
  have ev := ev_ok hf
  have upd := fun {id : Nat} {o o' : AObj} {w' : World} {ρ' : Rho} (hid : s.hp[id]? = some o) (hg : w.grownBy w' (o.blk ρ id)) => H.upd (w' := w') (S' := S) (ρ' := ρ') (o' := o') hid hg (fun _ h => h) (fun _ h => .inl h)
  cases ao <;> simp only [aeff, reduceCtorEq] at h
  case st rt a' x' =>
    obtain ⟨t, A, X, ho, ht, rfl, rfl⟩ : ∃ t A X, o.op = .store t A X ∧ RtOk P t rt ∧ a' = opd A ∧ x' = opd X := by
      rcases hm with hm | ⟨t, A, X, rt', e, h1, h2⟩
      · exact hm.elim
      · cases e; exact ⟨t, A, X, h1, h2, rfl, rfl⟩
    have fin : ∀ {ad : Addr} {w' : World}, a.eval A = .pointer (some ad) → (Instr.storeAt t (.pointer (some ad)) (a.eval X)).run P w = .ok () w' → (execOp a.eval o).run P w = .ok .skip w' := by
      intro ad w' hA hr
      simp only [execOp, ho, hA, Sem.run_bind, hr, Result.andThen_ok]; rfl
    split at h
    · rename_i id' o' off hA
      split at h
      · rename_i t' ps hob
        obtain ⟨⟨q1, q2⟩, hq, e⟩ := Option.map_eq_some_iff.1 h
        injection e with e1 e2; injection e2 with e2 e3; injection e3 with e3 e4; subst e1 e2 e3 e4
        obtain ⟨g, L, h1, h2, hAv⟩ := (hA ▸ ev A).ref
        obtain ⟨g', us, k1, k2, k3, k4⟩ := H.ob _ _ hob
        rw [h1] at k1; injection k1 with k1; subst k1
        injection h2 with h2; injection h2 with h2; subst h2
        obtain ⟨vs, v1, v2, v3, v4, v5⟩ := wrP_ok k3 hq hp' (ev X)
        have hrun := run_storeVar_row (P := P) ht (g := g') (o := o' + off) k2 (fun j _ h => by simp at h) v1 v2 v3 (by simpa using v4)
        obtain ⟨s1, s2⟩ := setCells_row g' t' (0, 0) vs (o' + off) w us.toArray k2 (by simpa [v2] using v4)
        have hblk : (AObj.cells t' ps).blk ρ id' = some g' := by simp [AObj.blk, h1, ablk]
        have hE : Ext w (w.setCells g' (o' + off) vs) S S ρ ρ := ⟨fun b hb => s2.block b (H.slt b hb) (fun e => by injection e with e; subst e; exact k4 hb), fun _ h => h, fun _ _ _ h => h⟩
        obtain ⟨u1, u2⟩ := upd (o' := .cells t' q1) (ρ' := ρ) hob (by rw [hblk]; exact s2) (fun _ _ _ h => h) (fun _ _ _ => rfl)
          ⟨g', _, h1, by simp only [v2, List.toList_toArray] at s1; exact s1, v5.ext hE, k4⟩ (fun v hv => H.vers _ _ hob v hv) (fun b hb => .inl (by simpa [AObj.blk] using hb))
        exact ⟨undef, _, ρ, .inr ⟨fin hAv hrun, rfl⟩, Vl.top _, u1, u2⟩
      · cases h
    · rename_i id' ver i z o' off hA
      split at h
      · rename_i e sz v' xs hob
        split at h
        · rename_i hc
          obtain ⟨rfl, hpure⟩ := hc
          split at h
          · rename_i q p' hq
            split at h
            · rename_i Y hY
              injection h with e; injection e with e1 e2; injection e2 with e2 e3; injection e3 with e3 e4; subst e1 e2 e3 e4
              obtain ⟨hp1, hi⟩ := hp'
              obtain ⟨g, L, h1, h2, hAv⟩ := (hA ▸ ev A).rowp
              obtain ⟨L', us, k1, k2, k3, k4, k5, k6⟩ := H.ob _ _ hob
              rw [h1] at k1; injection k1 with k1; subst k1
              subst k3
              have hxi : xs[i]? = some (xs.getD i z) := by rw [List.getD_eq_getElem?_getD, List.getElem?_eq_getElem hi]; rfl
              obtain ⟨m1, m2⟩ := k5.elem hxi
              have hel : ((us.drop (i * L.sz)).take L.sz).length = L.sz := by rw [List.length_take, List.length_drop]; omega
              generalize hX : xs.getD i z = X0 at hq m1 hY
              have hXpure : Vl w S rho0 (s.ev (opd X)) (a.eval X) := by
                have hXv := ev X
                cases hcase : s.ev (opd X) with
                | top => exact Vl.top _
                | tup ys => rw [hcase] at hpure; cases hpure
                | _ =>
                  obtain ⟨ws, hw1, hw2⟩ := hXv.cs (by rw [hcase]; simp) (by rw [hcase]; simp)
                  rw [← hcase]
                  have := pureB_ok (ρ' := rho0) 4 hw1 hpure
                  exact Vl1.vl (.inr ⟨ws, this, hw2⟩)
              obtain ⟨vs, v1, v2, v3, v4, v5⟩ := wrP_ok (Css.single m1 hel) hq hp1 hXpure
              rw [hel] at v4
              have hul := k5.len
              rw [psz_prs] at hul
              obtain ⟨r1, r2⟩ := k4
              rcases r2 with ⟨r2, r3, r4⟩ | ⟨g', cur, fr, r2, r3, r4, r5, r6, r7, r8⟩
              · omega
              · rw [h2] at r2; injection r2 with r2; injection r2 with r2; subst r2
                have hcur : us.length ≤ cur.size := by rw [← r8, List.length_take]; simp; omega
                have hpos : i * L.sz + (o' + off) + rt.size ≤ us.length := by omega
                have hrun := run_storeVar_row (P := P) ht (g := g) (o := i * L.sz + (o' + off)) r3 r4.out v1 v2 v3 (by omega)
                obtain ⟨s1, s2⟩ := setCells_row g e fr vs (i * L.sz + (o' + off)) w cur r3 (by omega)
                have hblk : (AObj.row e L.sz ver xs).blk ρ id' = some g := by simp [AObj.blk, h1, ablk, h2]
                have hSg : ¬ S g := k6 g (by rw [h2]; rfl)
                have hE : Ext w (w.setCells g (i * L.sz + (o' + off)) vs) S S rho0 rho0 := ⟨fun b hb => s2.block b (H.slt b hb) (fun e => by injection e with e; subst e; exact hSg hb), fun _ h => h, fun _ _ _ h => h⟩
                have hnl : (((us.drop (i * L.sz)).take L.sz).take (o' + off) ++ vs ++ ((us.drop (i * L.sz)).take L.sz).drop (o' + off + rt.size)).length = L.sz := by
                  simp only [List.length_append, List.length_take, List.length_drop, v2]; omega
                have hYc := unparts_ok hY v5 hnl
                have hset := Css.setElem hYc hnl xs us i k5 hi
                have hue : us.take (i * L.sz) ++ (((us.drop (i * L.sz)).take L.sz).take (o' + off) ++ vs ++ ((us.drop (i * L.sz)).take L.sz).drop (o' + off + rt.size)) ++ us.drop (i * L.sz + L.sz) =
                    us.take (i * L.sz + (o' + off)) ++ vs ++ us.drop (i * L.sz + (o' + off) + rt.size) := by
                  rw [List.take_take, Nat.min_eq_left (by omega)]
                  rw [show us.take (i * L.sz + (o' + off)) = us.take (i * L.sz) ++ (us.drop (i * L.sz)).take (o' + off) from List.take_add]
                  have : ((us.drop (i * L.sz)).take L.sz).drop (o' + off + rt.size) ++ us.drop (i * L.sz + L.sz) = us.drop (i * L.sz + (o' + off) + rt.size) := by
                    rw [List.drop_take, List.drop_drop]
                    have h5 : us.drop (i * L.sz + L.sz) = (us.drop (i * L.sz + (o' + off + rt.size))).drop (L.sz - (o' + off + rt.size)) := by
                      rw [List.drop_drop]; congr 1; omega
                    rw [h5, List.take_append_drop]; congr 1; omega
                  simp only [List.append_assoc, this]
                rw [hue] at hset
                obtain ⟨u1, u2⟩ := upd (o' := .row e L.sz ver (xs.set i Y)) (ρ' := ρ) hob (by rw [hblk]; exact s2) (fun _ _ _ h => h) (fun _ _ _ => rfl)
                  ⟨L, _, h1, by rw [List.length_set]; exact k2, rfl, ⟨by
                    simp only [List.length_append, List.length_take, List.length_drop, v2]; omega, .inr ⟨g, _, fr, h2, s1, r4.imp id fun h => by simp [v2]; omega, r5, r6, by simp [v2]; omega, by
                      have hn : L.n * L.sz = us.length := r1.symm
                      have hus : us = cur.toList.take us.length := by rw [← hn]; exact r8.symm
                      have := take_splice cur.toList vs us.length (i * L.sz + (o' + off)) (by omega) (by simpa using hcur)
                      rw [← hus, v2] at this
                      rw [hn, List.toList_toArray, v2]; exact this⟩⟩, hset.ext hE, k6⟩ (fun v hv => H.vers _ _ hob v hv) (fun b hb => .inl (by simpa [AObj.blk] using hb))
                exact ⟨undef, _, ρ, .inr ⟨fin hAv hrun, rfl⟩, Vl.top _, u1, u2⟩
            · cases h
          · cases h
        · cases h
      · cases h
    · cases h
  case app e sz bytes x' y' =>
    obtain ⟨t, X, Y, ho, hT, rfl, rfl⟩ : ∃ t X Y, o.op = .call { callee := .builtin .append, args := #[X, Y], argTypes := #[t, t] } ∧ SlOk P t e sz bytes ∧ x' = opd X ∧ y' = opd Y := by
      rcases hm with hm | ⟨t, A, X, rt', e, h1, h2⟩
      · exact hm
      · cases e
    obtain ⟨i, z, i1, i2, i3, i4, i5⟩ := hT.parts
    subst i4 i5
    -- appending to a row that lies in an object
    have key : ∀ {id ver : Nat} {xs ys zs : List AV} {L : Lc} {us : List Value} {n : Nat}, s.hp[id]? = some (.row e i.size ver xs) → view s.hp i.size (s.ev (opd Y)) = some ys → ρ id ver = some L → L.n = xs.length → L.sz = i.size → Rw w e L us → Css w S rho0 (prs i.size xs) us → (∀ g, ablk L.A = some g → ¬ S g) →
        n ≤ xs.length → zs = xs.take n → a.eval X = .slice L.A n L.c → (zs ++ ys).length ≤ 9223372036854775807 → (zs ++ ys).length * i.bytes ≤ 140737488355328 →
        ∃ q w' ρ', ((execOp a.eval o).run P w = .ok (.value q) w' ∨ ((execOp a.eval o).run P w = .ok .skip w' ∧ q = undef)) ∧ Vl w' S ρ' (.own id (ver + 1)) q ∧ HeapOk F w0 S ρ' (s.hp.set id (.row e i.size (ver + 1) (zs ++ ys))) w' ∧ Ext w w' S S ρ ρ' := by
      intro id ver xs ys zs L us n hob hy hL hn hsz hrw hc hSg hnx hzs hX hlen hby
      obtain ⟨A2, m, c2, vs, hY, hM⟩ := view_ok H.obs hy (ev Y)
      have hzl : zs.length = n := by rw [hzs, List.length_take]; omega
      have hul := hc.len
      rw [psz_prs] at hul
      have hrw0 : Rw w e ⟨L.A, L.c, n, L.sz⟩ (us.take (n * i.size)) := by
        obtain ⟨r1, r2⟩ := hrw
        have hle : n * i.size ≤ us.length := by rw [hul]; exact Nat.mul_le_mul_right _ hnx
        refine ⟨by simp only [List.length_take, hsz]; omega, ?_⟩
        rcases r2 with ⟨r2, r3, r4⟩ | ⟨g, cur, fr, r2, r3, r4, r5, r6, r7, r8⟩
        · exact .inl ⟨r2, by simp only; omega, r4⟩
        · refine .inr ⟨g, cur, fr, r2, r3, r4, by simp only; omega, r6, r7, ?_⟩
          simp only [hsz]
          rw [← r8, List.take_take, hsz, Nat.min_eq_left (by rw [hn]; exact Nat.mul_le_mul_right _ hnx)]
      have hcz : Css w S rho0 (prs i.size zs) (us.take (n * i.size)) := by
        have := hc.cut (i := 0) (j := n) (Nat.zero_le _) hnx
        simpa [hzs] using this
      have hlm : n + m = (zs ++ ys).length := by rw [List.length_append, hzl, hM.len]
      obtain ⟨L', w', r1, r2, r3, r4, r5, r6⟩ := run_append_rw (P := P) (ty := o.type) hT.under i1 i2 i3 (L := ⟨L.A, L.c, n, L.sz⟩) hsz hrw0 (A2 := A2) (m := m) (c2 := c2) (vs := vs) (by rw [hM.ulen, ← hM.len]) hM.css.cs.one hM.cell hT.pos (by simp only; omega) (by simp only; rw [hlm]; exact hby)
      simp only at r1 r3 r5 r6
      have hblk : (AObj.row e i.size ver xs).blk ρ id = ablk L.A := by simp [AObj.blk, hL]
      have hfresh : ρ id (ver + 1) = none := H.vers id _ hob (ver + 1) (Nat.lt_succ_self _)
      have hmono : ∀ j v K, ρ j v = some K → rset ρ id (ver + 1) L' j v = some K := by
        intro j v K hk
        rw [rset_ne]
        · exact hk
        · rintro ⟨rfl, rfl⟩; rw [hfresh] at hk; cases hk
      have hE0 : Ext w w' S S rho0 rho0 := ⟨fun b hb => r5.block b (H.slt b hb) (fun e => hSg b e.symm hb), fun _ h => h, fun _ _ _ h => h⟩
      obtain ⟨u1, u2⟩ := upd (o' := .row e i.size (ver + 1) (zs ++ ys)) (ρ' := rset ρ id (ver + 1) L') hob (by rw [hblk]; exact r5) hmono (fun j v hj => rset_ne _ _ _ _ (fun e => hj e.1))
        ⟨L', _, rset_self _ _ _ _, by rw [r3, hlm], r4, r2, by rw [prs_append]; exact (hcz.append hM.css).ext hE0, fun g hg hs => by
          rcases r6 with h6 | h6
          · rw [h6] at hg; exact hSg g hg hs
          · rw [h6] at hg; injection hg with hg; have := H.slt g hs; omega⟩
        (fun v hv => by
          simp only [AObj.ver] at hv
          rw [rset_ne _ _ _ _ (fun e => by omega)]
          exact H.vers id _ hob v (by simp only [AObj.ver]; omega))
        (fun b hb => by
          simp only [AObj.blk, rset_self, Option.bind_some] at hb
          rcases r6 with h6 | h6
          · left; rw [hblk, ← h6]; exact hb
          · right; rw [h6] at hb; injection hb with hb; omega)
      refine ⟨.slice L'.A L'.n L'.c, w', _, .inl ?_, .inr ⟨_, .own id (ver + 1) L' (rset_self _ _ _ _), rfl⟩, u1, u2⟩
      simp only [execOp, ho, resolve, Sem.run_bind, Sem.run_pure, Result.andThen_ok, invoke, builtin, List.map_toArray, List.map_cons, List.map_nil, hX, hY, r1]
    split at h
    · rename_i id' ver hX
      split at h
      · rename_i e' s' v' xs ys hob hy
        split at h
        · rename_i hc
          obtain ⟨rfl, rfl, rfl⟩ := hc
          injection h with h; injection h with e1 e2; injection e2 with e2 e3; injection e3 with e3 e4; subst e1 e2 e3 e4
          obtain ⟨L, hL, hv⟩ := (hX ▸ ev X).own
          obtain ⟨L', us, k1, k2, k3, k4, k5, k6⟩ := H.ob _ _ hob
          rw [hL] at k1; injection k1 with k1; subst k1
          exact key hob hy hL k2 k3 k4 k5 k6 (Nat.le_of_eq k2) (by rw [k2, List.take_length]) hv hp'.1 hp'.2
        · cases h
      · cases h
    · rename_i id' ver m hX
      split at h
      · rename_i e' s' v' xs ys hob hy
        split at h
        · rename_i hc
          obtain ⟨rfl, rfl, rfl⟩ := hc
          injection h with h; injection h with e1 e2; injection e2 with e2 e3; injection e3 with e3 e4; subst e1 e2 e3 e4
          obtain ⟨L, A0, hL, hm', hA, hv⟩ := (hX ▸ ev X).ownv
          obtain ⟨L', us, k1, k2, k3, k4, k5, k6⟩ := H.ob _ _ hob
          rw [hL] at k1; injection k1 with k1; subst k1
          rw [hA (.inr rfl), cutA_zero, Nat.sub_zero] at hv
          exact key hob hy hL k2 k3 k4 k5 k6 hp'.1 rfl hv hp'.2.1 hp'.2.2
        · cases h
      · cases h
    · cases h
  case mark x' =>
    obtain ⟨t, e0, X, ho, h1, h2, rfl⟩ : ∃ t e X, o.op = .convert t t X ∧ P.underlying t = some (.slice e) ∧ P.underlying e = some (.int .u8) ∧ x' = opd X := by
      rcases hm with hm | ⟨t, A, X, rt', e, h1, h2⟩
      · exact hm
      · cases e
    split at h
    · rename_i id' ver hX
      split at h
      · rename_i e sz v' xs hob
        split at h
        · rename_i hc
          subst hc
          injection h with h; injection h with e1 e2; injection e2 with e2 e3; injection e3 with e3 e4; subst e1 e2 e3 e4
          obtain ⟨L, hL, hv⟩ := (hX ▸ ev X).own
          obtain ⟨L', us, k1, k2, k3, k4, k5, k6⟩ := H.ob _ _ hob
          rw [hL] at k1; injection k1 with k1; subst k1
          obtain ⟨r1, r2⟩ := k4
          rcases r2 with ⟨_, r3, _⟩ | ⟨g, cur, fr, r2, r3, r4, r5, r6, r7, r8⟩
          · omega
          · obtain ⟨fr', hfr', hfz⟩ : ∃ fr', Mk fr' cur.size ∧ (w.freeze ⟨g, cur.size, none⟩ 1).heap = w.heap.modify g fun o => if o matches .cells _ _ _ then .cells cur e fr' else o := by
              obtain ⟨lo, hi⟩ := fr
              refine ⟨if lo == hi then (cur.size, cur.size + 1) else (min lo cur.size, max hi (cur.size + 1)), ?_, ?_⟩
              · split
                · exact .inr (Nat.le_refl _)
                · rename_i hne
                  rcases r4 with h | h
                  · exact absurd h (by simpa using hne)
                  · exact .inr (by simp only at h ⊢; omega)
              · have hg := (Array.getElem?_eq_some_iff.1 r3)
                obtain ⟨hg1, hg2⟩ := hg
                unfold World.freeze
                rw [if_neg (by decide)]
                simp only
                apply Array.ext
                · simp
                · intro i h1 h2
                  simp only [Array.getElem_modify]
                  by_cases hgi : g = i
                  · subst hgi; simp only [if_true, hg2]
                  · simp only [if_neg hgi]
            have hgb : w.grownBy (w.freeze ⟨g, cur.size, none⟩ 1) (some g) := by
              refine ⟨by unfold World.freeze; rw [if_neg (by decide)], by unfold World.freeze; rw [if_neg (by decide)], by unfold World.freeze; rw [if_neg (by decide)], by rw [hfz]; simp, fun k hk hne => ?_⟩
              rw [hfz, Array.getElem?_modify, if_neg (fun e => hne (by rw [e]))]
            have hw' : (w.freeze ⟨g, cur.size, none⟩ 1).heap[g]? = some (.cells cur e fr') := by
              rw [hfz, Array.getElem?_modify, if_pos rfl, r3]; rfl
            have hblk : (AObj.row e sz ver xs).blk ρ id' = some g := by simp [AObj.blk, hL, ablk, r2]
            have hSg : ¬ S g := k6 g (by rw [r2]; rfl)
            have hE0 : Ext w (w.freeze ⟨g, cur.size, none⟩ 1) S S rho0 rho0 := ⟨fun b hb => hgb.block b (H.slt b hb) (fun e => by injection e with e; subst e; exact hSg hb), fun _ h => h, fun _ _ _ h => h⟩
            obtain ⟨u1, u2⟩ := upd (o' := .row e sz ver xs) (ρ' := ρ) hob (by rw [hblk]; exact hgb) (fun _ _ _ h => h) (fun _ _ _ => rfl)
              ⟨L, us, hL, k2, k3, ⟨r1, .inr ⟨g, cur, fr', r2, hw', hfr', r5, r6, r7, r8⟩⟩, k5.ext hE0, k6⟩ (fun v hv => H.vers _ _ hob v hv) (fun b hb => .inl hb)
            refine ⟨.slice L.A L.n L.c, _, ρ, .inl ?_, .inr ⟨_, .own id' ver L hL, rfl⟩, u1, u2⟩
            have hsh : w.shape? g = some (e, cur.size) := by unfold World.shape?; rw [r3]
            simp [execOp, ho, hv, r2, convert, run_underlying h1, run_underlying h2, markStringish, hsh]
        · cases h
      · cases h
    · cases h
end
end Go.Proofs.Ytbefhofmbiedgaa
