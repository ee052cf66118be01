/- What the listed package-level variables hold, for the abstract machine. -/
import Derived.Test.YtjdlngbobnknmaaDoorRows
import Derived.Test.YtjdlngbobnknmaaDoorAM3
import Derived.LaidMore
import Derived.LaidLaws
import Derived.LaidHandle
import Derived.MakeChecks
import Derived.OpenShut
import Derived.ChangeArms
import Derived.Stop.Joined
namespace Go.Proofs.YtjdlngbobnknmaaDoor
set_option linter.all false
open Go.RowKit
/-- What one package-level variable holds. -/
def GeOk (w : World) (S : Nat → Prop) : Nat × GE → Prop
  | (g, .cells cs) => S g ∧ (∀ u ∈ cs, u.oneCell' = true) ∧ ∃ t fr, w.heap[g]? = some (.cells cs.toArray t fr)
  | (g, .err t l) => S g ∧ ∃ b o ty fr, w.heap[g]? = some (.cells #[.iface t (.pointer (some ⟨b, o, none⟩))] ty fr) ∧ S b ∧ w.cell? ⟨b, o, none⟩ = some (.string ⟨l.toArray⟩)
theorem glob1_ok {w : World} {S : Nat → Prop} {g sz : Nat} {x : AV} : ∀ l : List (Nat × GE), (∀ e ∈ l, GeOk w S e) → glob1 g l = some (sz, x) → S g ∧ ∃ us t fr, Cs w S rho0 x us ∧ us.length = sz ∧ w.heap[g]? = some (.cells us.toArray t fr) := by
  intro l
  induction l with
  | nil => intro _ h; cases h
  | cons e l ih =>
    intro h hg
    obtain ⟨k, e⟩ := e
    have h0 := h _ (List.mem_cons_self ..)
    have h1 := ih (fun e he => h e (List.mem_cons_of_mem _ he))
    cases e with
    | cells cs =>
      simp only [glob1] at hg
      split at hg
      · rename_i e
        subst e
        simp only [Option.some.injEq, Prod.mk.injEq] at hg
        obtain ⟨rfl, rfl⟩ := hg
        obtain ⟨a1, a2, t, fr, a3⟩ := h0
        exact ⟨a1, cs, t, fr, .blob cs a2, rfl, a3⟩
      · exact h1 hg
    | err t l =>
      simp only [glob1] at hg
      split at hg
      · rename_i e
        subst e
        simp only [Option.some.injEq, Prod.mk.injEq] at hg
        obtain ⟨rfl, rfl⟩ := hg
        obtain ⟨a1, b, o, ty, fr, a2, a3, a4⟩ := h0
        refine ⟨a1, [.iface t (.pointer (some ⟨b, o, none⟩))], ty, fr, ?_, rfl, a2⟩
        have hp : Cs w S rho0 (.ptr 1 (.str l) 0 0) [.pointer (some ⟨b, o + (0 + 0), none⟩)] := .ptr 1 (.str l) 0 0 [.string ⟨l.toArray⟩] b o a3 (.str l) rfl (fun j hj => by
          have : j = 0 := by simpa using hj
          subst this
          simpa using a4)
        exact .iface t _ _ hp
      · exact h1 hg
theorem globOk_of {w : World} {S : Nat → Prop} (h : ∀ e ∈ globs, GeOk w S e) (hi : ∀ g, globInts.contains g = true → S g ∧ ∃ m, w.cell? ⟨g, 0, none⟩ = some (.int .i64 m)) : GlobOk w S := ⟨fun _ _ _ hg => glob1_ok globs h hg, hi⟩

theorem laidVars_at {P : Program} {w : World} : ∀ (l : List (String × DataW Unit)) {ps : List MemPlace}, DataW.LaidVars P w l ps → ∀ (i : Nat) (n : String) (d : DataW Unit), l[i]? = some (n, d) →
    ∃ g t cs fuel p, P.globalNamed n = some g ∧ (P.globals[g]?).map (·.type) = some t ∧ w.var? P n = some cs ∧ DataW.trod (fun _ => ()) P w 0 (fun _ => true) false fuel t cs.toList = some (d, p) ∧ (∀ x ∈ MemPlace.row ⟨g, 0, none⟩ cs.size, x ∈ ps) ∧ (∀ x ∈ p, x ∈ ps) := by
  intro l
  induction l with
  | nil => intro ps _ i n d h; simp at h
  | cons e l ih =>
    intro ps h i n d hi
    obtain ⟨n0, d0⟩ := e
    obtain ⟨g, t, cs, fuel, p, q, h1, h2, h3, h4, h5, rfl⟩ := h
    cases i with
    | zero =>
      simp only [List.getElem?_cons_zero, Option.some.injEq, Prod.mk.injEq] at hi
      obtain ⟨rfl, rfl⟩ := hi
      exact ⟨g, t, cs, fuel, p, h1, h2, h3, h4, fun x hx => by simp [hx], fun x hx => by simp [hx]⟩
    | succ i =>
      obtain ⟨g', t', cs', fuel', p', k1, k2, k3, k4, k5, k6⟩ := ih h5 i n d (by simpa using hi)
      exact ⟨g', t', cs', fuel', p', k1, k2, k3, k4, fun x hx => by simp [k5 x hx], fun x hx => by simp [k6 x hx]⟩
theorem var_heap {P : Program} {w : World} {n : String} {g : Nat} {cs : Array Value} (hg : P.globalNamed n = some g) (h : w.var? P n = some cs) : ∃ t fr, w.heap[g]? = some (.cells cs t fr) := by
  simp only [World.var?, hg, Option.bind_some] at h
  split at h
  · rename_i cs' t fr e
    injection h with h
    subst h
    exact ⟨t, fr, e⟩
  · cases h
theorem lt_of_heap {w : World} {b : Nat} {x : Obj} (h : w.heap[b]? = some x) : b < w.heap.size := (Array.getElem?_eq_some_iff.1 h).1
theorem ge_cells {P : Program} {w : World} {l : List (String × DataW Unit)} {n : String} {k : IntKind} {zs : List Int} {g : Nat} {t e : TypeId} (h : laidMet P l w) (i : Nat)
    (hm : l[i]? = some (n, .agg (zs.map fun z => .lit (.int k z)))) (hg : P.globalNamed n = some g) (ht : (P.globals[g]?).map (·.type) = some t) (ha : P.underlying t = some (.array zs.length e)) (hct : P.cellsOf t = zs.length)
    (he : P.underlying e = some (.int k)) (hc : P.cellsOf e = 1) : GeOk w (fun b => b < w.heap.size) (g, .cells (zs.map fun z => .int k z)) := by
  obtain ⟨ps, hv, _, _⟩ := h
  obtain ⟨g', t', cs, fuel, p, h1, h2, h3, h4, _, _⟩ := laidVars_at l hv i n _ hm
  obtain rfl := Option.some.inj (hg.symm.trans h1)
  obtain rfl := Option.some.inj (ht.symm.trans h2)
  obtain ⟨ty, fr, hh⟩ := var_heap hg h3
  obtain ⟨xs, m, _, hx, hl, hn, hel⟩ := DataW.trod_array ha h4
  simp only [Prod.mk.injEq, DataW.agg.injEq] at hx
  have hcs : cs.toList = zs.map fun z => Value.int k z := by
    refine List.ext_getElem? fun j => ?_
    rcases Nat.lt_or_ge j zs.length with hj | hj
    · have h5 := hel j hj
      rw [hc] at h5
      obtain ⟨x, hxj⟩ : ∃ x, xs[j]? = some x := ⟨xs[j]'(by omega), List.getElem?_eq_getElem (by omega)⟩
      rw [hxj] at h5
      obtain ⟨z, e1, e2, _⟩ := DataW.trod_int he h5
      have e3 := congrArg (fun l => l[j]?) hx.1
      simp only [List.getElem?_map, hxj, Option.map_some, List.getElem?_eq_getElem hj] at e3
      rw [e2] at e3
      simp only [Option.some.injEq, DataW.lit.injEq, Lit.int.injEq, true_and] at e3
      have e4 := congrArg (fun l => l[0]?) e1
      simp only [List.getElem?_take, List.getElem?_drop, List.getElem?_cons_zero, Nat.lt_one_iff] at e4
      simp only [Nat.mul_one, Nat.add_zero, if_true] at e4
      rw [e4, List.getElem?_map, List.getElem?_eq_getElem hj, e3]
      rfl
    · rw [List.getElem?_eq_none (by omega), List.getElem?_eq_none (by simpa using hj)]
  refine ⟨lt_of_heap hh, fun u hu => ?_, ty, fr, by rw [hh, ← hcs]⟩
  obtain ⟨z, _, rfl⟩ := List.mem_map.1 hu
  rfl
theorem ge_err_of {P : Program} {w : World} {l : List (String × DataW Unit)} {n nm : String} {text : List UInt8} {g : Nat} {ti tp te ts : TypeId} {ms : Array (String × TypeId)} {f : Field} (h : laidMet P l w) (i : Nat)
    (hm : l[i]? = some (n, .iface nm (.ptr (.agg [.lit (.string text)])))) (hg : P.globalNamed n = some g) (ht : (P.globals[g]?).map (·.type) = some ti)
    (hi : P.underlying ti = some (.interface ms)) (hrow : ∀ u, P.typeName? 3 u = some nm → u = tp)
    (hp : P.underlying tp = some (.pointer te)) (he : P.underlying te = some (.struct #[f])) (hft : f.type = ts) (hfo : f.offset = 0) (hs : P.underlying ts = some .string) (hc : P.cellsOf te = 1) (hcs : P.cellsOf ts = 1) :
    GeOk w (fun b => b < w.heap.size) (g, .err tp text) := by
  obtain ⟨ps, hv, _, hrows⟩ := h
  obtain ⟨g', t', cs, fuel, p, h1, h2, h3, h4, h5, h6⟩ := laidVars_at l hv i n _ hm
  obtain rfl := Option.some.inj (hg.symm.trans h1)
  obtain rfl := Option.some.inj (ht.symm.trans h2)
  obtain ⟨ty, fr, hh⟩ := var_heap hg h3
  obtain ⟨l0⟩ := cs
  have ok0 : ∀ u v, l0 = [.iface u v] → Value.okWide P w .any 0 u v := fun u v e => by
    subst e
    exact (hrows g 0 (h5 _ (by simp [MemPlace.row]))).2 u v (by simpa using World.var?_cell hg h3 0)
  obtain ⟨a, s, rfl, hc0, hs0, _, rfl⟩ := errorString_of_trod hi hrow hp he hft hfo hs hc hcs h4 ok0
  obtain ⟨b, o, sp⟩ := a
  obtain ⟨⟨c, t0, hb0⟩, _⟩ := hrows b o (h6 _ (by simp [MemPlace.row]))
  have hsp : sp = none := by
    simp only [World.cell?, hb0] at hc0
    cases sp with
    | none => rfl
    | some _ => simp at hc0
  subst hsp
  refine ⟨lt_of_heap hh, b, o, ty, fr, hh, lt_of_heap hb0, ?_⟩
  rw [hc0]
  obtain ⟨⟨s⟩⟩ := s
  simp only at hs0
  subst hs0
  rfl

theorem glob_of_laid {W : World} (h0 : laidMetH Tryd.prog Rows.objectNamesRow.laid W) : GlobOk W (fun b => b < W.heap.size) := by
  rw [MakeChecks.laidMetH_plain _ _ _ (by kernel_rfl)] at h0
  have h : laidMet Tryd.prog Rows.objectNamesRow.laid W := h0
  refine globOk_of (fun e he => ?_) (by intro g hg; cases hg)
  simp only [globs, List.mem_cons, List.not_mem_nil, or_false] at he
  rcases he with rfl
  · exact ge_cells (n := "internal/strconv.uint64pow10") (k := .u64) (t := 94) (e := 36) (zs := [1, 10, 100, 1000, 10000, 100000, 1000000, 10000000, 100000000, 1000000000, 10000000000, 100000000000, 1000000000000, 10000000000000, 100000000000000, 1000000000000000, 10000000000000000, 100000000000000000, 1000000000000000000, 10000000000000000000]) h 2 rfl (by kernel_rfl) (by kernel_rfl) (by kernel_rfl) (by kernel_rfl) (by kernel_rfl) (by kernel_rfl)
end Go.Proofs.YtjdlngbobnknmaaDoor
