/- Operations that make one new object, on the abstract heap. Over any program; no condition. -/
import Derived.Test.YtbefhofmbiedgaaA11
namespace Go.Proofs.Ytbefhofmbiedgaa
set_option linter.all false
open Go.RowKit

/-- The elements of a slice's literal. -/
def aElems (s : St) (sz : Nat) : List Opd → Option (List AV × Prop)
  | [] => some ([], True)
  | x :: r => match szOk sz (s.ev x), aElems s sz r with
    | some p, some (xs, q) => if pureB 4 (s.ev x) then some (s.ev x :: xs, p ∧ q) else none
    | _, _ => none
def anew (s : St) : AOp → Option ((Nat → AV) × AObj × Prop)
  | .new t ps => some (fun id => .ref id 0 0, .cells t ps, True)
  | .box t sz x => match szOk sz (s.ev x) with
    | some p => some (fun id => .ref id 0 0, .cells t (pparts sz (s.ev x)), p)
    | none => none
  | .buildSl e sz parts => match aElems s sz parts with
    | some (xs, p) => some (fun id => .own id 0, .row e sz 0 xs, p ∧ xs.length ≤ 9223372036854775807)
    | none => none
  | .bytes e x => match s.ev x with
    | .str l => some (fun id => .own id 0, .row e 1 0 (Bs l), l.length ≤ 9223372036854775807)
    | _ => none
  | .mkSl e _ bytes z l c => match s.ev l, s.ev c with
    | .int _ a, .int _ b => some (fun id => .own id 0, .row e 1 0 (List.replicate a.toNat z), 0 ≤ a ∧ a ≤ b ∧ (bytes : Int) * b ≤ 281474976710656 ∧ b ≤ 9223372036854775807)
    | _, _ => none
  | .app e sz bytes x y => match s.ev x with
    | .con u => if nilS u then match view s.hp sz (s.ev y) with
      | some ys => some (fun id => .own id 0, .row e sz 0 ys, ys.length ≤ 9223372036854775807 ∧ ys.length * bytes ≤ 140737488355328)
      | none => none else none
    | _ => none
  | _ => none

/-- A slice's type for append. -/
structure SlOk (P : Program) (t e : TypeId) (sz bytes : Nat) : Prop where
  under : P.underlying t = some (.slice e)
  info : (P.info? e).map (fun i => (i.size, i.bytes, (i.zero.map fun z => z.cells.size))) = some (sz, bytes, some sz)
  pos : 0 < sz
theorem SlOk.parts {P : Program} {t e : TypeId} {sz bytes : Nat} (h : SlOk P t e sz bytes) : ∃ i z, P.info? e = some i ∧ i.zero = some z ∧ z.cells.size = i.size ∧ i.size = sz ∧ i.bytes = bytes := by
  obtain ⟨i, h1, h2⟩ := Option.map_eq_some_iff.1 h.info
  simp only [Prod.mk.injEq] at h2
  obtain ⟨h2, h3, h4⟩ := h2
  obtain ⟨z, h5, h6⟩ := Option.map_eq_some_iff.1 h4
  exact ⟨i, z, h1, h5, by rw [h6, h2], h2, h3⟩
def Mt2 (P : Program) (op : Op) : AOp → Prop
  | .new t ps => ∃ i z, op = .alloc t ∧ P.info? t = some i ∧ i.zero = some z ∧ (∀ (w : World) (S : Nat → Prop) (ρ : Rho), Css w S ρ ps z.cells.toList)
  | .box t sz x => ∃ X, op = .box t X ∧ x = opd X
  | .buildSl e sz parts => ∃ t i z n ps, op = .buildSlice t n ps ∧ P.underlying t = some (.slice e) ∧ P.info? e = some i ∧ i.size = sz ∧ i.zero = some z ∧ n * sz ≤ 16777216 ∧ ps.toList.map (·.1) = List.range n ∧ parts = ps.toList.map fun (q : Nat × Operand) => opd q.2
  | .bytes e x => ∃ src dst X, op = .convert src dst X ∧ P.underlying src = some .string ∧ P.underlying dst = some (.slice e) ∧ P.underlying e = some (.int .u8) ∧ x = opd X
  | .mkSl e sz bytes z l c => ∃ t i zv L C, op = .makeSlice t L C ∧ P.underlying t = some (.slice e) ∧ P.info? e = some i ∧ i.size = 1 ∧ sz = 1 ∧ i.bytes = bytes ∧ i.zero = some zv ∧ zv.oneCell' = true ∧ z = ofC zv ∧ l = opd L ∧ c = opd C
  | .app e sz bytes x y => ∃ t X Y, op = .call { callee := .builtin .append, args := #[X, Y], argTypes := #[t, t] } ∧ SlOk P t e sz bytes ∧ x = opd X ∧ y = opd Y
  | .mark x => ∃ t e X, op = .convert t t X ∧ P.underlying t = some (.slice e) ∧ P.underlying e = some (.int .u8) ∧ x = opd X
  | _ => False

section
variable {P : Program} {F : Nat → Prop} {w0 w : World} {S : Nat → Prop} {ρ : Rho}
theorem rset_mono {id : Nat} (h : ∀ u, ρ id u = none) (L : Lc) : ∀ i v K, ρ i v = some K → rset ρ id 0 L i v = some K := by
  intro i v K hk
  rw [rset_ne]
  · exact hk
  · rintro ⟨rfl, rfl⟩; rw [h] at hk; cases hk
theorem aElems_ok {s : St} {a : Act} (hf : FrOk w S ρ s.fr a.tmps) {sz : Nat} : ∀ (parts : List Operand) (xs : List AV) (p : Prop), aElems s sz (parts.map opd) = some (xs, p) → p →
    (∀ v ∈ parts.map a.eval, v.cells.size = sz) ∧ Css w S rho0 (prs sz xs) ((parts.map a.eval).map fun v => v.cells.toList).flatten ∧ xs.length = parts.length := by
  intro parts
  induction parts with
  | nil => intro xs p h hp; simp only [List.map_nil, aElems, Option.some.injEq, Prod.mk.injEq] at h; obtain ⟨rfl, rfl⟩ := h; exact ⟨by simp, rfl, rfl⟩
  | cons X parts ih =>
    intro xs p h hp
    simp only [List.map_cons, aElems] at h
    split at h
    · rename_i p1 xs' q hs hr
      split at h
      · rename_i hpure
        simp only [Option.some.injEq, Prod.mk.injEq] at h
        obtain ⟨rfl, rfl⟩ := h
        obtain ⟨k1, k2, k3⟩ := ih xs' q hr hp.2
        have hne : s.ev (opd X) ≠ .top := by intro e; rw [e] at hs; cases hs
        have hnt : ∀ xs, s.ev (opd X) ≠ .tup xs := by intro xs e; rw [e] at hs; cases hs
        obtain ⟨vs, hc, hv⟩ := (ev_ok hf X).cs hne hnt
        have hl := szOk_ok hc hs hp.1
        have hcl := cells_wrapv hc (hc.multi_or hne)
        rw [← hv] at hcl
        refine ⟨?_, ?_, by simp [k3]⟩
        · intro v hvm
          simp only [List.map_cons, List.mem_cons] at hvm
          rcases hvm with rfl | hvm
          · rw [← Array.length_toList, hcl, hl]
          · exact k1 v hvm
        · simp only [List.map_cons, List.flatten_cons, hcl]
          exact ⟨vs, _, rfl, hl, pureB_ok 4 hc hpure, k2⟩
      · cases h
    · cases h
theorem rw_new {w' : World} {e : TypeId} {sz n c : Nat} {cur : Array Value} {fr : Nat × Nat} {us : List Value} {g : Nat} (hg : w'.heap[g]? = some (.cells cur e fr)) (hf : Mk fr cur.size) (hul : us.length = n * sz)
    (h1 : n ≤ c) (h2 : c ≤ 9223372036854775807) (h3 : cur.size = c * sz) (h4 : cur.toList.take (n * sz) = us) : Rw w' e ⟨some ⟨g, 0, none⟩, c, n, sz⟩ us :=
  ⟨hul, .inr ⟨g, cur, fr, rfl, hg, hf, h1, h2, h3, h4⟩⟩
theorem zipIdx_range : ∀ (l : List (Nat × Operand)) (k : Nat), l.map (·.1) = List.range' k l.length → ∀ (f : Operand → Value), l.map (fun q => (q.1, f q.2)) = ((l.map fun q => f q.2).zipIdx k).map fun p => (p.2, p.1) := by
  intro l
  induction l with
  | nil => intro k _ f; rfl
  | cons q l ih =>
    intro k h f
    simp only [List.map_cons, List.length_cons, List.range'_succ, List.cons.injEq] at h
    simp only [List.map_cons, List.zipIdx_cons, ih (k + 1) h.2 f, h.1]
theorem anew_ok {s : St} {a : Act} {o : Oper} {ao : AOp} {xf : Nat → AV} {ob : AObj} {p : Prop} (H : ObsOk w S ρ s.hp) (slt : ∀ b, S b → b < w.heap.size) (hf : FrOk w S ρ s.fr a.tmps) (hm : Mt2 P o.op ao) (h : anew s ao = some (xf, ob, p)) (hp' : p) :
    ∃ v w', (execOp a.eval o).run P w = .ok (.value v) w' ∧ Below w.heap.size w w' ∧ ob.ver = 0 ∧ ∀ id, (∀ u, ρ id u = none) → ∃ L, ObjOk w' S (rset ρ id 0 L) id ob ∧ Vl w' S (rset ρ id 0 L) (xf id) v ∧ (∀ b, ob.blk (rset ρ id 0 L) id = some b → w.heap.size ≤ b) := by
  have ev := ev_ok hf
  have rv : ∀ {m : Sem Value} {q : Value} {w' : World}, m.run P w = .ok q w' → (do pure (Next.value (← m)) : Sem Next).run P w = .ok (.value q) w' := by
    intro m q w' h
    simp only [Sem.run_bind, h, Result.andThen_ok]; rfl
  have eA : ∀ (X : Obj) id L, (∀ u, ρ id u = none) → Ext w (w.alloc X) S S ρ (rset ρ id 0 L) := fun X id L hn => ⟨fun b hb => Below.heap_alloc w X b (slt b hb), fun _ h => h, rset_mono hn L⟩
  have nS : ∀ g, S g → w.heap.size ≤ g → False := fun g hg hle => by have := slt g hg; omega
  -- a new block of cells as an object
  have cellsOb : ∀ (t : TypeId) (ps : List (Nat × AV)) (us : List Value), Css w S ρ ps us → ∀ id, (∀ u, ρ id u = none) → ∃ L, ObjOk (w.alloc (.cells us.toArray t)) S (rset ρ id 0 L) id (.cells t ps) ∧ Vl (w.alloc (.cells us.toArray t)) S (rset ρ id 0 L) (.ref id 0 0) (.pointer (some ⟨w.heap.size, 0, none⟩)) ∧ (∀ b, (AObj.cells t ps).blk (rset ρ id 0 L) id = some b → w.heap.size ≤ b) := by
    intro t ps us hc id hn
    refine ⟨⟨some ⟨w.heap.size, 0, none⟩, 0, 0, 0⟩, ⟨w.heap.size, us, rset_self _ _ _ _, heap_alloc_new w _, hc.ext (eA _ id _ hn), fun hs => nS _ hs (Nat.le_refl _)⟩, .inr ⟨_, .ref id 0 0 w.heap.size _ (rset_self _ _ _ _) rfl, rfl⟩, ?_⟩
    intro b hb
    simp only [AObj.blk, rset_self, Option.bind_some, ablk, Option.map_some] at hb
    injection hb with hb; omega
  -- a new row
  have rowOb : ∀ (e : TypeId) (sz : Nat) (xs : List AV) (us : List Value) (w' : World) (L : Lc), Below w.heap.size w w' → Css w S rho0 (prs sz xs) us → Rw w' e L us → L.n = xs.length → L.sz = sz → (∀ b, ablk L.A = some b → w.heap.size ≤ b) → ∀ id, (∀ u, ρ id u = none) →
      ∃ L', ObjOk w' S (rset ρ id 0 L') id (.row e sz 0 xs) ∧ Vl w' S (rset ρ id 0 L') (.own id 0) (.slice L.A L.n L.c) ∧ (∀ b, (AObj.row e sz 0 xs).blk (rset ρ id 0 L') id = some b → w.heap.size ≤ b) := by
    intro e sz xs us w' L hbel hc hrw hn hsz hb id hid
    refine ⟨L, ⟨L, us, rset_self _ _ _ _, hn, hsz, hrw, hc.ext ⟨fun b hb => hbel.block b (slt b hb), fun _ h => h, fun _ _ _ h => by cases h⟩, fun g hg hs => nS g hs (hb g hg)⟩, .inr ⟨_, .own id 0 L (rset_self _ _ _ _), rfl⟩, ?_⟩
    intro b hbb
    simp only [AObj.blk, rset_self, Option.bind_some] at hbb
    exact hb b hbb
  cases ao <;> simp only [anew, reduceCtorEq] at h
  case new t ps =>
    obtain ⟨i, z, ho, h1, h2, h3⟩ := hm
    injection h with h; injection h with e1 e2; injection e2 with e2 e3; subst e1 e2
    refine ⟨.pointer (some ⟨w.heap.size, 0, none⟩), w.alloc (.cells z.cells t), ?_, (Below.refl _ _).alloc (Nat.le_refl _) _, rfl, ?_⟩
    · simp only [execOp, ho]
      exact rv (by simp [Instr.alloc, zeroValue, typeInfo, h1, h2, newVar, newRow])
    · have := cellsOb t ps z.cells.toList (h3 w S ρ)
      simpa using this
  case box t sz x =>
    obtain ⟨X, ho, rfl⟩ := hm
    split at h
    · rename_i q hq
      injection h with h; injection h with e1 e2; injection e2 with e2 e3; subst e1 e2 e3
      have hne : s.ev (opd X) ≠ .top := by intro e; rw [e] at hq; cases hq
      have hnt : ∀ xs, s.ev (opd X) ≠ .tup xs := by intro xs e; rw [e] at hq; cases hq
      obtain ⟨vs, hc, hv⟩ := (ev X).cs hne hnt
      have hl := szOk_ok hc hq hp'
      have hcl := cells_wrapv hc (hc.multi_or hne)
      rw [← hv] at hcl
      have hca : (a.eval X).cells = vs.toArray := by rw [← hcl]
      refine ⟨.pointer (some ⟨w.heap.size, 0, none⟩), w.alloc (.cells vs.toArray t), ?_, (Below.refl _ _).alloc (Nat.le_refl _) _, rfl, cellsOb t _ vs (Css.single hc hl)⟩
      simp only [execOp, ho]
      exact rv (by simp [Instr.box, newVar, newRow, hca])
    · cases h
  case buildSl e sz parts =>
    obtain ⟨t, i, z, n, ps, ho, h1, h2, h3, h4, h5, h6, rfl⟩ := hm
    split at h
    · rename_i xs q hq
      injection h with h; injection h with e1 e2; injection e2 with e2 e3; subst e1 e2 e3
      have hmap : ps.toList.map (fun (q : Nat × Operand) => opd q.2) = (ps.toList.map (·.2)).map opd := by rw [List.map_map]; rfl
      rw [hmap] at hq
      obtain ⟨k1, k2, k3⟩ := aElems_ok hf (ps.toList.map (·.2)) xs q hq hp'.1
      have hlen : ps.toList.length = n := by rw [← List.length_map (f := (·.1)), h6, List.length_range]
      have hxs : xs.length = n := by rw [k3, List.length_map, hlen]
      have hus := k2.len
      rw [psz_prs, hxs] at hus
      generalize hU : ((ps.toList.map (·.2)).map a.eval |>.map fun v => v.cells.toList).flatten = us at k2 hus
      have hfill : ∀ (zc : Array Value), zc.size = n * sz → Instr.fill (fun i => some (i * sz, sz)) zc (ps.toList.map fun q => (q.1, a.eval q.2)) = some us.toArray := by
        intro zc hz
        have hr := zipIdx_range ps.toList 0 (by rw [h6, hlen, List.range_eq_range']) a.eval
        have := fill_all sz ((ps.toList.map (·.2)).map a.eval) 0 [] zc.toList k1 (by simp) (by simp only [Array.length_toList, List.length_map, hz, hlen])
        have e0 : (ps.toList.map fun (q : Nat × Operand) => a.eval q.2) = (ps.toList.map (·.2)).map a.eval := by rw [List.map_map]; rfl
        rw [hr, e0]
        rw [List.nil_append, List.nil_append, hU] at this
        exact this
      have hrun : (Instr.buildSlice t n (ps.map fun (i, x) => (i, a.eval x))).run P w = .ok (.slice (some ⟨w.heap.size, 0, none⟩) n n) (w.alloc (.cells us.toArray e)) := by
        have hps : (ps.map fun (i, x) => (i, a.eval x)).toList = ps.toList.map fun q => (q.1, a.eval q.2) := by simp
        have hno : ¬ n * sz > 2 ^ 24 := by omega
        by_cases hz : n * sz = 0
        · have := hfill #[] (by rw [hz]; rfl)
          simp [Instr.buildSlice, run_underlying h1, sizeOf, typeInfo, h2, h3, hno, hz, newRow, Array.range_zero', hps, this]
        · have hzz := hfill ((Array.range (n * sz)).map (z.cells[· % z.cells.size]!)) (by simp)
          simp [Instr.buildSlice, run_underlying h1, sizeOf, typeInfo, h2, h3, hno, hz, zeroValue, h4, newRow, hps, hzz]
      refine ⟨_, _, by simp only [execOp, ho]; exact rv hrun, (Below.refl _ _).alloc (Nat.le_refl _) _, rfl, ?_⟩
      have hrw : Rw (w.alloc (.cells us.toArray e)) e ⟨some ⟨w.heap.size, 0, none⟩, n, n, sz⟩ us := by
        refine rw_new (cur := us.toArray) (fr := (0, 0)) (heap_alloc_new w _) (.inl rfl) hus (Nat.le_refl _) (by have := hp'.2; omega) (by simpa using hus) ?_
        rw [← hus]; simp
      exact rowOb e sz xs us _ _ ((Below.refl _ _).alloc (Nat.le_refl _) _) k2 hrw hxs.symm rfl (fun b hb => by simp only [ablk, Option.map_some] at hb; injection hb with hb; omega)
    · cases h
  case mkSl e sz bytes z l c =>
    obtain ⟨t, i, zv, L, C, ho, h1, h2, h3, rfl, rfl, h6, h7, rfl, rfl, rfl⟩ := hm
    split at h
    · rename_i k1 na k2 nb hna hnb
      injection h with h; injection h with e1 e2; injection e2 with e2 e3; subst e1 e2 e3
      obtain ⟨p0, p1, p2, p3⟩ := hp'
      have hL := (hna ▸ ev L).int
      have hC := (hnb ▸ ev C).int
      have hzc : zv.cells = #[zv] := by cases zv <;> first | rfl | cases h7
      have hmade : madeCells zv.cells (nb.toNat * 1) = (List.replicate nb.toNat zv).toArray := by
        rw [hzc, Nat.mul_one]
        apply Array.ext
        · simp [madeCells]
        · intro j h1 h2; simp [madeCells, Nat.mod_one]
      have hrun := run_make (P := P) w t e i zv h1 h2 h6 k1 k2 na nb p0 p1 p2 p3
      rw [h3, hmade] at hrun
      refine ⟨_, _, by simp only [execOp, ho, hL, hC]; exact rv hrun, (Below.refl _ _).alloc (Nat.le_refl _) _, rfl, ?_⟩
      have hrw : Rw (w.alloc (.cells (List.replicate nb.toNat zv).toArray e)) e ⟨some ⟨w.heap.size, 0, none⟩, nb.toNat, na.toNat, 1⟩ (List.replicate na.toNat zv) := by
        refine rw_new (cur := (List.replicate nb.toNat zv).toArray) (fr := (0, 0)) (heap_alloc_new w _) (.inl rfl) (by simp) (by omega) (by omega) (by simp) ?_
        simp only [Nat.mul_one, List.toList_toArray, List.take_replicate]
        congr 1; omega
      refine rowOb e 1 _ (List.replicate na.toNat zv) _ _ ((Below.refl _ _).alloc (Nat.le_refl _) _) ?_ hrw (by simp) rfl (fun b hb => by simp only [ablk, Option.map_some] at hb; injection hb with hb; omega)
      clear hrw hrun hmade
      induction na.toNat with
      | zero => rfl
      | succ n ih => exact ⟨[zv], List.replicate n zv, rfl, rfl, cs_ofC zv h7, ih⟩
    · cases h
  case bytes e x =>
    obtain ⟨src, dst, X, ho, h1, h2, h3, rfl⟩ := hm
    split at h
    · rename_i l hl
      injection h with h; injection h with e1 e2; injection e2 with e2 e3; subst e1 e2 e3
      have hX := (hl ▸ ev X).str
      have hrun := run_bytes_of_string (P := P) w src dst e ⟨l.toArray⟩ h1 h2 h3
      have hsz : (⟨l.toArray⟩ : ByteArray).size = l.length := rfl
      rw [hsz] at hrun
      have hge := grownCap_ge w l.length 0 e
      have hcm : grownCap w l.length 0 e ≤ 9223372036854775807 := by
        have := grownCap_le_maxLen w l.length 0 e (by simp only [maxLen]; omega)
        simp only [maxLen] at this; omega
      have hbr : bytesRow ⟨l.toArray⟩ (grownCap w l.length 0 e) = (l.map U ++ List.replicate (grownCap w l.length 0 e - l.length) (Value.int .u8 0)).toArray := by
        unfold bytesRow
        apply Array.ext'
        simp [ByteArray.size]
        intro a _; rfl
      rw [hbr] at hrun
      refine ⟨_, _, by simp only [execOp, ho, hX]; exact rv hrun, ((Below.refl _ _).drew).alloc (Nat.le_refl _) _, rfl, ?_⟩
      refine rowOb e 1 (Bs l) (l.map U) _ ⟨some ⟨w.heap.size, 0, none⟩, grownCap w l.length 0 e, l.length, 1⟩ (((Below.refl _ _).drew).alloc (Nat.le_refl _) _) (css_bytes l) ?_ (by simp [Bs]) rfl (fun b hb => by simp only [ablk, Option.map_some] at hb; injection hb with hb; omega)
      refine rw_new (heap_alloc_new w.drew _) (.inr (Nat.le_refl _)) (by simp) hge hcm (by simp; omega) ?_
      simp only [Nat.mul_one, List.toList_toArray]
      rw [List.take_left' (by simp)]
    · cases h
  case app e sz bytes x y =>
    obtain ⟨t, X, Y, ho, hT, rfl, rfl⟩ := hm
    split at h
    · rename_i u hu
      split at h
      · rename_i hn
        split at h
        · rename_i ys hy
          injection h with h; injection h with e1 e2; injection e2 with e2 e3; subst e1 e2 e3
          have hX := (hu ▸ ev X).con.trans (nilS_eq hn)
          obtain ⟨A2, m, c2, vs, hY, hM⟩ := view_ok H hy (ev Y)
          obtain ⟨i, z, i1, i2, i3, i4, i5⟩ := hT.parts
          subst i4 i5
          have hr0 : Rw w e ⟨none, 0, 0, i.size⟩ [] := ⟨by simp, .inl ⟨rfl, rfl, rfl⟩⟩
          obtain ⟨L', w', r1, r2, r3, r4, r5, r6⟩ := run_append_rw (P := P) (ty := o.type) hT.under i1 i2 i3 rfl hr0 (by rw [hM.ulen, ← hM.len]) hM.css.cs.one hM.cell hT.pos (m := m) (c2 := c2) (by have := hM.len; simp only; omega) (by have := hM.len; simp only [Nat.zero_add]; rw [this]; exact hp'.2)
          have hbel : Below w.heap.size w w' := ⟨r5.os, r5.tape, r5.output, r5.size, fun k hk => r5.block k hk (by simp [ablk])⟩
          refine ⟨.slice L'.A L'.n L'.c, w', ?_, hbel, rfl, ?_⟩
          · simp only [execOp, ho, resolve, Sem.run_bind, Sem.run_pure, Result.andThen_ok, invoke, builtin, List.map_toArray, List.map_cons, List.map_nil, hX, hY]
            simp only at r1
            rw [r1]; rfl
          · exact rowOb e i.size ys vs w' L' hbel hM.css (by simpa using r2) (by rw [r3, hM.len]; simp) r4 (fun b hb => by
              rcases r6 with h6 | h6
              · rw [h6] at hb; cases hb
              · rw [h6] at hb; injection hb with hb; omega)
        · cases h
      · cases h
    · cases h
end
end Go.Proofs.Ytbefhofmbiedgaa
