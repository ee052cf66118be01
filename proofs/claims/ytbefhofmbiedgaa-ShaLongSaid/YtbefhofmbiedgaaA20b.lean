/- Regions that draw their order, on the abstract machine: what is asked of their edges, so that every order does as the text's. Over any program; no condition. -/
import Derived.Test.YtbefhofmbiedgaaA20
import Derived.Orders
namespace Go.Proofs.Ytbefhofmbiedgaa
set_option linter.all false
open Go.RowKit

/-- It may make or write memory. -/
def AOp.isH : AOp → Bool
  | .call _ _ | .callv _ _ | .app _ _ _ _ _ | .mark _ | .st _ _ _ | .new _ _ | .box _ _ _ | .buildSl _ _ _ | .mkSl _ _ _ _ _ _ | .bytes _ _ => true
  | _ => false
def Opd.rd : Opd → List Nat
  | .t n => [n]
  | .c _ => []
/-- The slots that it reads. -/
def AOp.rd : AOp → List Nat
  | .mv x => x.rd
  | .pick c a b => c.rd ++ a.rd ++ b.rd
  | .bin _ x y => x.rd ++ y.rd
  | .eqB _ x y => x.rd ++ y.rd
  | .eqA _ _ x y => x.rd ++ y.rd
  | .un _ x => x.rd
  | .toInt _ x => x.rd
  | .toStr x => x.rd
  | .same x => x.rd
  | .idxS x i => x.rd ++ i.rd
  | .idxA _ _ x i => x.rd ++ i.rd
  | .ia _ _ x i => x.rd ++ i.rd
  | .iaA _ x i => x.rd ++ i.rd
  | .fld _ _ x => x.rd
  | .fa _ x => x.rd
  | .ld _ x => x.rd
  | .slS x lo hi => x.rd ++ (lo.toList.flatMap Opd.rd) ++ (hi.toList.flatMap Opd.rd)
  | .sl _ x lo hi => x.rd ++ (lo.toList.flatMap Opd.rd) ++ (hi.toList.flatMap Opd.rd)
  | .ext x _ => x.rd
  | .nck x => x.rd
  | .len _ _ x => x.rd
  | .mkfn _ a c => a.flatMap Opd.rd ++ c.flatMap Opd.rd
  | .mkif _ x => x.rd
  | .mm _ x y => x.rd ++ y.rd
  | .build _ ps => ps.flatMap fun p => p.2.2.rd
  | .buildA _ ps => ps.flatMap fun p => p.2.rd
  | .new _ _ => []
  | .box _ _ x => x.rd
  | .buildSl _ _ ps => ps.flatMap Opd.rd
  | .mkSl _ _ _ _ l c => l.rd ++ c.rd
  | .bytes _ x => x.rd
  | .app _ _ _ s x => s.rd ++ x.rd
  | .appS _ s x => s.rd ++ x.rd
  | .cpy _ d x => d.rd ++ x.rd
  | .st _ a x => a.rd ++ x.rd
  | .mark x => x.rd
  | .call _ l => l.flatMap Opd.rd
  | .callv g l => g.rd ++ l.flatMap Opd.rd
def AOper.rd (o : AOper) : List Nat := o.op.rd ++ (match o.grd with | some (t, _) => [t] | none => [])

section
variable {Φ : Phi} {s s' : St}
theorem ev_congr {x : Opd} (h : ∀ t ∈ x.rd, lk s.fr t = lk s'.fr t) : s.ev x = s'.ev x := by
  cases x with
  | t n => exact h n (by simp [Opd.rd])
  | c x => rfl
theorem evs_congr {l : List Opd} (h : ∀ t ∈ l.flatMap Opd.rd, lk s.fr t = lk s'.fr t) : l.map s.ev = l.map s'.ev :=
  List.map_congr_left fun x hx => ev_congr fun t ht => h t (List.mem_flatMap.2 ⟨x, hx, ht⟩)
theorem evo_congr {l : Option Opd} (h : ∀ t ∈ l.toList.flatMap Opd.rd, lk s.fr t = lk s'.fr t) : l.map s.ev = l.map s'.ev := by
  cases l with
  | none => rfl
  | some x => simp only [Option.map_some]; rw [ev_congr fun t ht => h t (by simpa using ht)]
theorem aBuild_congr : ∀ (ps : List (Nat × Nat × Opd)) (zs : List (Nat × AV)), (∀ t ∈ ps.flatMap fun p => p.2.2.rd, lk s.fr t = lk s'.fr t) → aBuild s zs ps = aBuild s' zs ps := by
  intro ps
  induction ps with
  | nil => intro zs _; rfl
  | cons p ps ih =>
    intro zs h
    obtain ⟨o, n, x⟩ := p
    have h1 : s.ev x = s'.ev x := ev_congr fun t ht => h t (by simp [ht])
    have h2 : ∀ zs, aBuild s zs ps = aBuild s' zs ps := fun zs => ih zs fun t ht => h t (by rw [List.flatMap_cons]; exact List.mem_append_right _ ht)
    simp only [aBuild, h1, h2]
theorem aBuildA_congr : ∀ (ps : List (Nat × Opd)) (zs : List Value), (∀ t ∈ ps.flatMap fun p => p.2.rd, lk s.fr t = lk s'.fr t) → aBuildA s zs ps = aBuildA s' zs ps := by
  intro ps
  induction ps with
  | nil => intro zs _; rfl
  | cons p ps ih =>
    intro zs h
    obtain ⟨i, x⟩ := p
    have h1 : s.ev x = s'.ev x := ev_congr fun t ht => h t (by simp [ht])
    have h2 : ∀ zs, aBuildA s zs ps = aBuildA s' zs ps := fun zs => ih zs fun t ht => h t (by rw [List.flatMap_cons]; exact List.mem_append_right _ ht)
    simp only [aBuildA, h1, h2]
theorem aElems_congr (sz : Nat) : ∀ (ps : List Opd), (∀ t ∈ ps.flatMap Opd.rd, lk s.fr t = lk s'.fr t) → aElems s sz ps = aElems s' sz ps := by
  intro ps
  induction ps with
  | nil => intro _; rfl
  | cons x ps ih =>
    intro h
    have h1 : s.ev x = s'.ev x := ev_congr fun t ht => h t (by simp [ht])
    have h2 := ih fun t ht => h t (by rw [List.flatMap_cons]; exact List.mem_append_right _ ht)
    simp only [aElems, h1, h2]
/-- Only what it reads tells in a reading operation. -/
theorem aval_congr {op : AOp} (hp : s.hp = s'.hp) (h : ∀ t ∈ op.rd, lk s.fr t = lk s'.fr t) : aval s op = aval s' op := by
  have e := fun {x : Opd} (hx : ∀ t ∈ x.rd, t ∈ op.rd) => ev_congr (s := s) (s' := s') (x := x) fun t ht => h t (hx t ht)
  cases op <;> simp only [aval]
  case mv x => rw [e fun t ht => ht]
  case pick c a b => rw [e (x := c) fun t ht => by simp [AOp.rd, ht], e (x := a) fun t ht => by simp [AOp.rd, ht], e (x := b) fun t ht => by simp [AOp.rd, ht]]
  case bin o x y => rw [e (x := x) fun t ht => by simp [AOp.rd, ht], e (x := y) fun t ht => by simp [AOp.rd, ht]]
  case eqB o x y => rw [e (x := x) fun t ht => by simp [AOp.rd, ht], e (x := y) fun t ht => by simp [AOp.rd, ht]]
  case eqA o n x y => rw [e (x := x) fun t ht => by simp [AOp.rd, ht], e (x := y) fun t ht => by simp [AOp.rd, ht]]
  case un o x => rw [e fun t ht => ht]
  case toInt o x => rw [e fun t ht => ht]
  case toStr x => rw [e fun t ht => ht, hp]
  case same x => rw [e fun t ht => ht]
  case idxS x y => rw [e (x := x) fun t ht => by simp [AOp.rd, ht], e (x := y) fun t ht => by simp [AOp.rd, ht]]
  case idxA n z x y => rw [e (x := x) fun t ht => by simp [AOp.rd, ht], e (x := y) fun t ht => by simp [AOp.rd, ht]]
  case ia n z x y => rw [e (x := x) fun t ht => by simp [AOp.rd, ht], e (x := y) fun t ht => by simp [AOp.rd, ht], hp]
  case iaA n x y => rw [e (x := x) fun t ht => by simp [AOp.rd, ht], e (x := y) fun t ht => by simp [AOp.rd, ht]]
  case fld o rt x => rw [e fun t ht => ht]
  case fa o x => rw [e fun t ht => ht]
  case ld rt x => rw [e fun t ht => ht, hp]
  case slS x lo hi =>
    rw [e (x := x) fun t ht => by simp [AOp.rd, ht], evo_congr (l := lo) fun t ht => h t (by simp only [AOp.rd, List.mem_append]; exact .inl (.inr ht)), evo_congr (l := hi) fun t ht => h t (by simp only [AOp.rd, List.mem_append]; exact .inr ht)]
  case sl sz x lo hi =>
    rw [e (x := x) fun t ht => by simp [AOp.rd, ht], evo_congr (l := lo) fun t ht => h t (by simp only [AOp.rd, List.mem_append]; exact .inl (.inr ht)), evo_congr (l := hi) fun t ht => h t (by simp only [AOp.rd, List.mem_append]; exact .inr ht), hp]
  case ext x i => rw [e fun t ht => ht]
  case nck x => rw [e fun t ht => ht]
  case len n b x => rw [e fun t ht => ht, hp]
  case mkfn f a c => rw [evs_congr (l := a) fun t ht => h t (by simp only [AOp.rd, List.mem_append]; exact .inl ht), evs_congr (l := c) fun t ht => h t (by simp only [AOp.rd, List.mem_append]; exact .inr ht)]
  case mkif t x => rw [e fun t ht => ht]
  case mm b x y => rw [e (x := x) fun t ht => by simp [AOp.rd, ht], e (x := y) fun t ht => by simp [AOp.rd, ht]]
  case build zs ps => rw [aBuild_congr ps zs h]
  case buildA zs ps => rw [aBuildA_congr ps zs h]
theorem anew_congr {op : AOp} (hp : s.hp = s'.hp) (h : ∀ t ∈ op.rd, lk s.fr t = lk s'.fr t) : anew s op = anew s' op := by
  have e := fun {x : Opd} (hx : ∀ t ∈ x.rd, t ∈ op.rd) => ev_congr (s := s) (s' := s') (x := x) fun t ht => h t (hx t ht)
  cases op <;> simp only [anew]
  case box t sz x => rw [e fun t ht => ht]
  case buildSl t sz ps => rw [aElems_congr sz ps h]
  case mkSl a b c d x y => rw [e (x := x) fun t ht => by simp [AOp.rd, ht], e (x := y) fun t ht => by simp [AOp.rd, ht]]
  case bytes t x => rw [e fun t ht => ht]
  case app a b c x y => rw [e (x := x) fun t ht => by simp [AOp.rd, ht], e (x := y) fun t ht => by simp [AOp.rd, ht], hp]
theorem aeff_congr {op : AOp} (hp : s.hp = s'.hp) (h : ∀ t ∈ op.rd, lk s.fr t = lk s'.fr t) : aeff s op = aeff s' op := by
  have e := fun {x : Opd} (hx : ∀ t ∈ x.rd, t ∈ op.rd) => ev_congr (s := s) (s' := s') (x := x) fun t ht => h t (hx t ht)
  cases op <;> simp only [aeff]
  case app a b c x y => rw [e (x := x) fun t ht => by simp [AOp.rd, ht], e (x := y) fun t ht => by simp [AOp.rd, ht], hp]
  case st rt x y => rw [e (x := x) fun t ht => by simp [AOp.rd, ht], e (x := y) fun t ht => by simp [AOp.rd, ht], hp]
  case mark x => rw [e fun t ht => ht, hp]
theorem astep_congr {op : AOp} (hp : s.hp = s'.hp) (h : ∀ t ∈ op.rd, lk s.fr t = lk s'.fr t) : astep Φ s op = astep Φ s' op := by
  have hV : ∀ r, stV s r = stV s' r := fun r => by unfold stV; rw [hp]
  have hN : ∀ r, stN s r = stN s' r := fun r => by unfold stN; rw [hp]
  have hE : ∀ r, stE s r = stE s' r := fun r => by unfold stE; rw [hp]
  have hC : ∀ r, stC s r = stC s' r := fun r => by unfold stC; rw [hp]
  cases op <;> simp only [astep]
  case call f l => rw [hC, hp, evs_congr (l := l) h]
  case callv g l => rw [ev_congr (x := g) fun t ht => h t (by simp [AOp.rd, ht]), evs_congr (l := l) fun t ht => h t (by simp only [AOp.rd, List.mem_append]; exact .inr ht), hp]; simp only [hC]
  case app a b c x y => rw [aeff_congr hp h, anew_congr hp h]; simp only [hE, hN]
  case st => rw [aeff_congr hp h, hE]
  case mark => rw [aeff_congr hp h, hE]
  case new => rw [anew_congr hp h, hN]
  case box => rw [anew_congr hp h, hN]
  case buildSl e sz ps =>
    rcases frzS_congr ps hp (fun t ht => h t (by
      simp only [AOp.rd, List.mem_flatMap] at ht ⊢
      obtain ⟨x, hx, ht⟩ := ht
      exact ⟨x, hx, by cases x <;> exact ht⟩)) with ⟨e1, e2⟩ | ⟨z, z', e1, e2, e3, e4⟩
    · rw [e1, e2]
    · rw [e1, e2]
      simp only
      rw [anew_congr e3 (fun t ht => e4 t (h t ht))]
      unfold stN; rw [e3]
  case mkSl => rw [anew_congr hp h, hN]
  case bytes => rw [anew_congr hp h, hN]
  all_goals rw [aval_congr hp h, hV]
end
end Go.Proofs.Ytbefhofmbiedgaa
