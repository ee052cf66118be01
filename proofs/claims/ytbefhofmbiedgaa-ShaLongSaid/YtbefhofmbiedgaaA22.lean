/- The model's code turned into the abstract machine's. Over any program; no condition. -/
import Derived.Test.YtbefhofmbiedgaaA21
namespace Go.Proofs.Ytbefhofmbiedgaa
set_option linter.all false
open Go.RowKit

def rtOf (P : Program) (t : TypeId) : Option Rt :=
  match P.info? t, P.underlying t with
  | some i, some (.struct _) => some (.st i.size)
  | some i, some (.array _ _) => some (.arr i.size)
  | some i, some _ => if i.size = 1 then some (.one (match i.zero with
    | some z => ofC z
    | none => .top)) else none
  | _, _ => none
def shOf (P : Program) : Nat → TypeId → Option (List (Option Nat))
  | 0, _ => none
  | d + 1, t => match P.info? t, P.underlying t with
    | some _, some (.struct fs) => (mapO (fun (f : Field) => shOf P d f.type) fs.toList).map List.flatten
    | some i, some (.array _ _) => some [some i.size]
    | some _, some _ => some [none]
    | _, _ => none
/-- A type's zero, as parts. -/
def zOf (P : Program) (t : TypeId) : Option (List (Nat × AV)) :=
  match P.info? t, shOf P 6 t with
  | some i, some sh => match i.zero with
    | some z => if shSize sh = z.cells.toList.length ∧ (z.cells.toList.all fun u => u.oneCell') = true then some (mkParts sh z.cells.toList) else none
    | none => none
  | _, _ => none
/-- A type's zero, as a value. -/
def zvOf (P : Program) (t : TypeId) : AV :=
  match P.underlying t, zOf P t with
  | some (.struct _), some ps => .agg ps
  | some _, some [(_, x)] => x
  | _, _ => .top
def szOf (P : Program) (t : TypeId) : Option Nat := (P.info? t).map (·.size)
def byOf (P : Program) (t : TypeId) : Nat := ((P.info? t).map (·.bytes)).getD 0
def slOk (P : Program) (t : TypeId) : Option (TypeId × Nat × Nat) :=
  match P.underlying t with
  | some (.slice e) => match P.info? e with
    | some i => match i.zero with
      | some z => if z.cells.size = i.size ∧ 0 < i.size then some (e, i.size, i.bytes) else none
      | none => none
    | none => none
  | _ => none
def isU8 (P : Program) (t : TypeId) : Bool :=
  match P.underlying t with
  | some (.int .u8) => true
  | _ => false
def one1 (P : Program) (e : TypeId) : Bool := (match P.underlying e with | some (.struct _) | some (.array _ _) | none => false | _ => true) && decide (szOf P e = some 1)
def slimBuild (P : Program) (t : TypeId) (ps : Array (Nat × Operand)) : Option AOp :=
  match P.info? t, P.underlying t with
  | some it, some (.struct fs) => match it.zero, zOf P t, fs.toList.mapM (fun f => (P.info? f.type).map fun i => (f.offset, i.size)) with
    | some _, some zs, some places => (mapO (fun (q : Nat × Operand) => (places[q.1]?).map fun p => (p.1, p.2, opd q.2)) ps.toList).map (.build zs)
    | _, _, _ => none
  | some it, some (.array _ e) => match it.zero with
    | some z => if szOf P e = some 1 ∧ (z.cells.toList.all fun u => u.oneCell') = true then some (.buildA z.cells.toList (ps.toList.map fun q => (q.1, opd q.2))) else none
    | none => none
  | _, _ => none
def slimCall (P : Program) (c : Call) : Option AOp :=
  match c.callee with
  | .value (.func f) => some (.call f (c.args.toList.map opd))
  | .value g => some (.callv (opd g) (c.args.toList.map opd))
  | .builtin .len => match c.args.toList, c.argTypes.toList with
    | [x], [t] => match P.underlying t with
      | some .string => some (.len none true (opd x))
      | some (.slice _) => some (.len none false (opd x))
      | some (.array n _) => some (.len (some n) false (opd x))
      | _ => none
    | _, _ => none
  | .builtin .append => match c.args.toList, c.argTypes.toList with
    | [x, y], [t, t'] => if t = t' then match slOk P t with
      | some (e, sz, by_) => some (.app e sz by_ (opd x) (opd y))
      | none => none else none
    | _, _ => none
  | .builtin .min => match c.args.toList with
    | [x, y] => some (.mm false (opd x) (opd y))
    | _ => none
  | .builtin .max => match c.args.toList with
    | [x, y] => some (.mm true (opd x) (opd y))
    | _ => none
  | _ => none
def slimOp (P : Program) : Op → Option AOp
  | .move x => some (.mv (opd x))
  | .assign x => some (.mv (opd x))
  | .pick c a b => some (.pick (opd c) (opd a) (opd b))
  | .alloc t => match P.info? t with
    | some i => match i.zero with
      | some _ => (zOf P t).map (.new t)
      | none => none
    | none => none
  | .box t x => (szOf P t).map fun sz => .box t sz (opd x)
  | .build t ps => slimBuild P t ps
  | .buildSlice t n ps => match slOk P t with
    | some (e, sz, _) => if n * sz ≤ 16777216 ∧ ps.toList.map (·.1) = List.range n then some (.buildSl e sz (ps.toList.map fun q => opd q.2)) else none
    | none => none
  | .load t x => (rtOf P t).map fun rt => .ld rt (opd x)
  | .store t a x => (rtOf P t).map fun rt => .st rt (opd a) (opd x)
  | .nilCheck x => some (.nck (opd x))
  | .binOp op t x y _ => match P.underlying t with
    | some (.int _) => some (.bin op (opd x) (opd y))
    | some .string => some (.bin op (opd x) (opd y))
    | some .bool => match op with
      | .eql => some (.eqB false (opd x) (opd y))
      | .neq => some (.eqB true (opd x) (opd y))
      | _ => none
    | some (.array n e) => if isU8 P e = true ∧ szOf P e = some 1 ∧ P.eqGuardType P.depth t = false then match op with
      | .eql => some (.eqA false n (opd x) (opd y))
      | .neq => some (.eqA true n (opd x) (opd y))
      | _ => none else none
    | _ => none
  | .unOp op _ x => some (.un op (opd x))
  | .convert src dst x => match P.underlying src, P.underlying dst with
    | some _, some (.int k) => some (.toInt k (opd x))
    | some .string, some .string => some (.same (opd x))
    | some (.slice e), some .string => if isU8 P e = true then some (.toStr (opd x)) else none
    | some .string, some (.slice e) => if isU8 P e = true then some (.bytes e (opd x)) else none
    | some (.slice e), some (.slice _) => if isU8 P e = true ∧ src = dst then some (.mark (opd x)) else none
    | _, _ => none
  | .makeInterface t x => if P.concrete t = true then some (.mkif t (opd x)) else none
  | .makeFunc f a c => some (.mkfn f (a.toList.map opd) (c.toList.map opd))
  | .makeSlice t l c => match P.underlying t with
    | some (.slice e) => match P.info? e with
      | some i => match i.zero with
        | some z => if i.size = 1 ∧ z.oneCell' = true then some (.mkSl e 1 i.bytes (ofC z) (opd l) (opd c)) else none
        | none => none
      | none => none
    | _ => none
  | .slice t x lo hi none => match P.underlying t with
    | some .string => some (.slS (opd x) (lo.map opd) (hi.map opd))
    | some (.slice e) => (szOf P e).map fun sz => .sl sz (opd x) (lo.map opd) (hi.map opd)
    | _ => none
  | .fieldAddr t x k => match P.underlying t with
    | some (.struct fs) => match fs[k]? with
      | some f => match szOf P f.type with
        | some n => if n = 0 then none else some (.fa f.offset (opd x))
        | none => none
      | none => none
    | _ => none
  | .field t x k => match P.underlying t with
    | some (.struct fs) => match fs[k]? with
      | some f => (rtOf P f.type).map fun rt => .fld f.offset rt (opd x)
      | none => none
    | _ => none
  | .indexAddr t x i => match P.underlying t with
    | some (.slice e) => (szOf P e).map fun sz => .ia sz (zvOf P e) (opd x) (opd i)
    | some (.array n e) => if szOf P e = some 1 then some (.iaA n (opd x) (opd i)) else none
    | _ => none
  | .index t x i => match P.underlying t with
    | some .string => some (.idxS (opd x) (opd i))
    | some (.array n e) => if one1 P e = true then some (.idxA n (zvOf P e) (opd x) (opd i)) else none
    | _ => none
  | .extract x i => some (.ext (opd x) i)
  | .call c => slimCall P c
  | _ => none

section
variable {P : Program}
theorem rtOf_ok {t : TypeId} {rt : Rt} (h : rtOf P t = some rt) : RtOk P t rt := by
  unfold rtOf at h
  split at h
  · rename_i i fs h1 h2; injection h with h; subst h; exact ⟨by rw [h1]; rfl, by rw [h2]; rfl⟩
  · rename_i i n e h1 h2; injection h with h; subst h; exact ⟨by rw [h1]; rfl, by rw [h2]; rfl⟩
  · rename_i i d hs ha h1 h2
    split at h
    · rename_i e; injection h with h; subst h
      refine ⟨by rw [h1]; simp [Rt.size, e], ?_⟩
      rw [h2]
      cases d <;> first | rfl | exact absurd rfl (hs _) | exact absurd rfl (ha _ _) | skip
    · cases h
  · cases h
theorem zOf_ok {t : TypeId} {ps : List (Nat × AV)} {i : TypeInfo} {z : Value} (h : zOf P t = some ps) (hi : P.info? t = some i) (hz : i.zero = some z) : ∀ (w : World) (S : Nat → Prop) (ρ : Rho), Css w S ρ ps z.cells.toList := by
  unfold zOf at h
  rw [hi] at h
  split at h
  · rename_i i' sh h1 h2
    injection h1 with h1; subst h1
    rw [hz] at h
    simp only at h
    split at h
    · rename_i e; injection h with h; subst h
      intro w S ρ; exact mkParts_ok sh _ e.1 e.2
    · cases h
  · cases h
theorem slOk_ok {t e : TypeId} {sz by_ : Nat} (h : slOk P t = some (e, sz, by_)) : SlOk P t e sz by_ := by
  unfold slOk at h
  split at h
  · rename_i e' h1
    split at h
    · rename_i i h2
      split at h
      · rename_i z h3
        split at h
        · rename_i c; simp only [Option.some.injEq, Prod.mk.injEq] at h; obtain ⟨rfl, rfl, rfl⟩ := h
          exact ⟨h1, by rw [h2]; simp [h3, c.1], c.2⟩
        · cases h
      · cases h
    · cases h
  · cases h
theorem isU8_ok {t : TypeId} (h : isU8 P t = true) : P.underlying t = some (.int .u8) := by
  unfold isU8 at h
  split at h
  · assumption
  · cases h
theorem slimCall_ok {c : Call} {ao : AOp} (h : slimCall P c = some ao) : MtA P (.call c) ao := by
  obtain ⟨cl, args, ats⟩ := c
  obtain ⟨args⟩ := args
  obtain ⟨ats⟩ := ats
  unfold slimCall at h
  split at h
  · rename_i f hc
    simp only at hc; subst hc
    injection h with h; subst h
    exact ⟨_, _, rfl, rfl⟩
  · rename_i g hc hg
    simp only at hg; subst hg
    injection h with h; subst h
    exact ⟨_, _, _, rfl, rfl, rfl⟩
  · rename_i hc; simp only at hc; subst hc
    split at h
    · rename_i x t ha ht
      simp only at ha ht; subst ha ht
      split at h
      · rename_i hu; injection h with h; subst h; exact ⟨x, t, rfl, .inl hu, fun _ => hu, rfl⟩
      · rename_i e hu; injection h with h; subst h; exact ⟨x, t, rfl, .inr ⟨e, hu⟩, fun _ => ⟨e, hu⟩, rfl⟩
      · rename_i n e hu; injection h with h; subst h; exact ⟨x, t, rfl, ⟨e, hu⟩, fun hh => (by cases hh), rfl⟩
      · cases h
    · cases h
  · rename_i hc; simp only at hc; subst hc
    split at h
    · rename_i x y t t' ha ht
      simp only at ha ht; subst ha ht
      split at h
      · rename_i e; subst e
        split at h
        · rename_i e sz by_ hs; injection h with h; subst h; exact ⟨t, x, y, rfl, slOk_ok hs, rfl, rfl⟩
        · cases h
      · cases h
    · cases h
  · rename_i hc; simp only at hc; subst hc
    split at h
    · rename_i x y ha; simp only at ha; subst ha; injection h with h; subst h; exact ⟨x, y, _, rfl, rfl, rfl⟩
    · cases h
  · rename_i hc; simp only at hc; subst hc
    split at h
    · rename_i x y ha; simp only at ha; subst ha; injection h with h; subst h; exact ⟨x, y, _, rfl, rfl, rfl⟩
    · cases h
  · cases h
theorem slimBuild_ok {t : TypeId} {ps : Array (Nat × Operand)} {ao : AOp} (h : slimBuild P t ps = some ao) : MtA P (.build t ps) ao := by
  unfold slimBuild at h
  split at h
  · rename_i it fs h1 h2
    split at h
    · rename_i z zs places h3 h4 h5
      obtain ⟨q, hq, rfl⟩ := Option.map_eq_some_iff.1 h
      refine ⟨t, ps, z.cells, (places.toArray[·]?), rfl, fun vs => ?_, zOf_ok h4 h1 h3, fun j => ?_⟩
      · simp only [Program.built, h1, h2, h3, h5]
      · obtain ⟨m1, m2⟩ := mapO_get hq
        cases hj : ps.toList[j]? with
        | none =>
          have : q[j]? = none := List.getElem?_eq_none (by rw [m1]; exact List.getElem?_eq_none_iff.1 hj)
          rw [this]; rfl
        | some x =>
          obtain ⟨y, y1, y2⟩ := m2 j x hj
          obtain ⟨p, hp, rfl⟩ := Option.map_eq_some_iff.1 y2
          rw [y1]; simp [hp]
    · cases h
  · rename_i it n e h1 h2
    split at h
    · rename_i z h3
      split at h
      · rename_i c; injection h with h; subst h
        obtain ⟨ie, hie, hs⟩ := Option.map_eq_some_iff.1 c.1
        refine ⟨t, ps, rfl, fun vs => ?_, c.2, rfl⟩
        simp only [Program.built, h1, h2, h3, hie, hs]
      · cases h
    · cases h
  · cases h
theorem slimOp_ok {op : Op} {ao : AOp} (h : slimOp P op = some ao) : MtA P op ao := by
  unfold slimOp at h
  split at h
  · injection h with h; subst h; exact ⟨_, .inl rfl, rfl⟩
  · injection h with h; subst h; exact ⟨_, .inr rfl, rfl⟩
  · injection h with h; subst h; exact ⟨_, _, _, rfl, rfl, rfl, rfl⟩
  · split at h
    · rename_i i h1
      split at h
      · rename_i z h2
        obtain ⟨ps, hp, rfl⟩ := Option.map_eq_some_iff.1 h
        exact ⟨i, z, rfl, h1, h2, zOf_ok hp h1 h2⟩
      · cases h
    · cases h
  · obtain ⟨sz, hs, rfl⟩ := Option.map_eq_some_iff.1 h; exact ⟨_, rfl, rfl⟩
  · exact slimBuild_ok h
  · rename_i t n ps
    split at h
    · rename_i e sz by_ hs
      split at h
      · rename_i c; injection h with h; subst h
        have hT := slOk_ok hs
        obtain ⟨i, z, i1, i2, i3, i4, i5⟩ := hT.parts
        exact ⟨t, i, z, n, ps, rfl, hT.under, i1, i4, i2, c.1, c.2, rfl⟩
      · cases h
    · cases h
  · obtain ⟨rt, hr, rfl⟩ := Option.map_eq_some_iff.1 h; exact ⟨_, _, rfl, rtOf_ok hr, rfl⟩
  · obtain ⟨rt, hr, rfl⟩ := Option.map_eq_some_iff.1 h; exact ⟨_, _, _, rfl, rtOf_ok hr, rfl, rfl⟩
  · injection h with h; subst h; exact ⟨_, rfl, rfl⟩
  · split at h
    · injection h with h; subst h; exact ⟨_, _, _, _, rfl, rfl, rfl⟩
    · injection h with h; subst h; exact ⟨_, _, _, _, rfl, rfl, rfl⟩
    · rename_i hu
      split at h
      · injection h with h; subst h; exact ⟨_, _, _, _, rfl, hu, rfl, rfl⟩
      · injection h with h; subst h; exact ⟨_, _, _, _, rfl, hu, rfl, rfl⟩
      · cases h
    · rename_i n e hu
      split at h
      · rename_i c
        split at h
        · injection h with h; subst h; exact ⟨_, _, _, _, e, rfl, hu, isU8_ok c.1, c.2.1, c.2.2, rfl, rfl⟩
        · injection h with h; subst h; exact ⟨_, _, _, _, e, rfl, hu, isU8_ok c.1, c.2.1, c.2.2, rfl, rfl⟩
        · cases h
      · cases h
    · cases h
  · injection h with h; subst h; exact ⟨_, _, rfl, rfl⟩
  · split at h
    · rename_i h1 h2; injection h with h; subst h; exact ⟨_, _, _, rfl, by rw [h1]; rfl, h2, rfl⟩
    · rename_i h1 h2; injection h with h; subst h; exact ⟨_, _, _, rfl, h1, h2, rfl⟩
    · rename_i h1 h2
      split at h
      · rename_i c; injection h with h; subst h; exact ⟨_, _, _, _, rfl, h1, isU8_ok c, h2, rfl⟩
      · cases h
    · rename_i h1 h2
      split at h
      · rename_i c; injection h with h; subst h; exact ⟨_, _, _, rfl, h1, h2, isU8_ok c, rfl⟩
      · cases h
    · rename_i h1 h2
      split at h
      · rename_i c; obtain ⟨c1, rfl⟩ := c; injection h with h; subst h; exact ⟨_, _, _, rfl, h1, isU8_ok c1, rfl⟩
      · cases h
    · cases h
  · split at h
    · rename_i c; injection h with h; subst h; exact ⟨_, rfl, c, rfl⟩
    · cases h
  · injection h with h; subst h; exact ⟨_, _, rfl, rfl, rfl⟩
  · split at h
    · rename_i e h1
      split at h
      · rename_i i h2
        split at h
        · rename_i z h3
          split at h
          · rename_i c; injection h with h; subst h; exact ⟨_, i, z, _, _, rfl, h1, h2, c.1, rfl, rfl, h3, c.2, rfl, rfl, rfl⟩
          · cases h
        · cases h
      · cases h
    · cases h
  · split at h
    · rename_i h1; injection h with h; subst h; exact ⟨_, _, _, _, rfl, h1, rfl, rfl, rfl⟩
    · rename_i e h1; obtain ⟨sz, hs, rfl⟩ := Option.map_eq_some_iff.1 h; exact ⟨_, e, _, _, _, rfl, h1, hs, rfl, rfl, rfl⟩
    · cases h
  · split at h
    · rename_i fs h1
      split at h
      · rename_i f h2
        split at h
        · rename_i n h3
          split at h
          · cases h
          · rename_i c; injection h with h; subst h
            obtain ⟨i, hi1, hi2⟩ := Option.map_eq_some_iff.1 h3
            exact ⟨_, fs, _, f, _, rfl, h1, h2, rfl, by rw [hi1]; simp only [Option.map_some, hi2]; rw [decide_eq_false c], rfl⟩
        · cases h
      · cases h
    · cases h
  · split at h
    · rename_i fs h1
      split at h
      · rename_i f h2
        obtain ⟨rt, hr, rfl⟩ := Option.map_eq_some_iff.1 h
        exact ⟨_, fs, _, f, _, rfl, h1, h2, rfl, rtOf_ok hr, rfl⟩
      · cases h
    · cases h
  · split at h
    · rename_i e h1; obtain ⟨sz, hs, rfl⟩ := Option.map_eq_some_iff.1 h; exact ⟨_, e, _, _, rfl, h1, hs, rfl, rfl⟩
    · rename_i n e h1
      split at h
      · rename_i c; injection h with h; subst h; exact ⟨_, e, _, _, rfl, h1, c, rfl, rfl⟩
      · cases h
    · cases h
  · split at h
    · rename_i h1; injection h with h; subst h; exact ⟨_, _, _, rfl, h1, rfl, rfl⟩
    · rename_i n e h1
      split at h
      · rename_i c; injection h with h; subst h
        simp only [one1, Bool.and_eq_true, decide_eq_true_eq] at c
        exact ⟨_, e, _, _, rfl, h1, c.2, c.1, rfl, rfl⟩
      · cases h
    · cases h
  · injection h with h; subst h; exact ⟨_, rfl, rfl⟩
  · exact slimCall_ok h
  · cases h

def dstOk (N : Nat) : Option Tmp → Bool
  | some t => decide (t < N)
  | none => true
def slimOper (P : Program) (N : Nat) (ops : Array Oper) (o : Oper) : Option AOper :=
  match slimOp P o.op with
  | some ao => if dstOk N o.dst = true then match o.guard with
    | none => some ⟨o.dst, ao, none⟩
    | some (g, b) => match (ops[g]?).bind (·.dst) with
      | some t => if t < N then some ⟨o.dst, ao, some (t, b)⟩ else none
      | none => none else none
  | none => none
theorem slimOper_ok {N : Nat} {ops : Array Oper} {o : Oper} {ao : AOper} (h : slimOper P N ops o = some ao) : MtO P N ops o ao := by
  unfold slimOper at h
  split at h
  · rename_i a ha
    split at h
    · rename_i hd
      have hd' : ∀ t, o.dst = some t → t < N := by
        intro t ht; rw [ht] at hd; exact of_decide_eq_true hd
      split at h
      · rename_i hg; injection h with h; subst h
        exact ⟨rfl, slimOp_ok ha, hd', by rw [hg]; trivial⟩
      · rename_i g b hg
        split at h
        · rename_i t ht
          split at h
          · rename_i htN; injection h with h; subst h
            exact ⟨rfl, slimOp_ok ha, hd', by rw [hg]; exact ⟨rfl, ht, htN⟩⟩
          · cases h
        · cases h
    · cases h
  · cases h
theorem all2_mapO {α β : Type} {R : α → β → Prop} {f : α → Option β} (hf : ∀ a b, f a = some b → R a b) : ∀ {l : List α} {m : List β}, mapO f l = some m → All2 R l m := by
  intro l
  induction l with
  | nil => intro m h; simp only [mapO, Option.some.injEq] at h; subst h; trivial
  | cons a l ih =>
    intro m h
    simp only [mapO] at h
    split at h
    · rename_i b bs hb hbs; injection h with h; subst h; exact ⟨hf _ _ hb, ih hbs⟩
    · cases h
def slimC (P : Program) (N : Nat) : Code → Option ACode
  | .skip => some .skip
  | .label _ => some .skip
  | .region _ ops false => (mapO (slimOper P N ops) ops.toList).map (.reg none)
  | .region _ ops true => match mapO (slimOper P N ops) ops.toList with
    | some l => (drawHid P ops l).map fun hid => .reg (some hid) l
    | none => none
  | .seq x y => match slimC P N x, slimC P N y with
    | some x', some y' => some (.seq x' y')
    | _, _ => none
  | .cond c x y => match slimC P N x, slimC P N y with
    | some x', some y' => some (.cond (opd c) x' y')
    | _, _ => none
  | .block i c => (slimC P N c).map (.block i)
  | .loop c => (slimC P N c).map .loop
  | .exit i => some (.exit i)
  | .ret => some .ret
  | _ => none
theorem slimC_ok {N : Nat} : ∀ {code : Code} {ac : ACode}, slimC P N code = some ac → MtC P N code ac := by
  intro code
  induction code with
  | skip => intro ac h; simp only [slimC, Option.some.injEq] at h; subst h; trivial
  | label l => intro ac h; simp only [slimC, Option.some.injEq] at h; subst h; trivial
  | region id ops draw =>
    intro ac h
    cases draw with
    | false =>
      simp only [slimC] at h
      obtain ⟨l, hl, rfl⟩ := Option.map_eq_some_iff.1 h
      exact all2_mapO (fun _ _ => slimOper_ok) hl
    | true =>
      simp only [slimC] at h
      split at h
      · rename_i l hl
        obtain ⟨hid, hh, rfl⟩ := Option.map_eq_some_iff.1 h
        exact ⟨all2_mapO (fun _ _ => slimOper_ok) hl, drawHid_ok hh⟩
      · cases h
  | seq x y ihx ihy =>
    intro ac h
    simp only [slimC] at h
    split at h
    · rename_i x' y' h1 h2; injection h with h; subst h; exact ⟨ihx h1, ihy h2⟩
    · cases h
  | cond c x y ihx ihy =>
    intro ac h
    simp only [slimC] at h
    split at h
    · rename_i x' y' h1 h2; injection h with h; subst h; exact ⟨rfl, ihx h1, ihy h2⟩
    · cases h
  | block i c ih => intro ac h; simp only [slimC] at h; obtain ⟨c', hc, rfl⟩ := Option.map_eq_some_iff.1 h; exact ⟨rfl, ih hc⟩
  | loop c ih => intro ac h; simp only [slimC] at h; obtain ⟨c', hc, rfl⟩ := Option.map_eq_some_iff.1 h; exact ih hc
  | exit i => intro ac h; simp only [slimC, Option.some.injEq] at h; subst h; rfl
  | ret => intro ac h; simp only [slimC, Option.some.injEq] at h; subst h; trivial
  | _ => intro ac h; cases h
def slimR (P : Program) : ResultVar → Option ARes
  | .tmp t => some (.t t)
  | .cell a t => (rtOf P t).map (.c a)
theorem slimR_ok {r : ResultVar} {a : ARes} (h : slimR P r = some a) : MtR P r a := by
  cases r with
  | tmp t => simp only [slimR, Option.some.injEq] at h; subst h; rfl
  | cell b t => simp only [slimR] at h; obtain ⟨rt, hr, rfl⟩ := Option.map_eq_some_iff.1 h; exact ⟨rfl, rtOf_ok hr⟩
/-- A function as the abstract machine has it: its code and its results. -/
def slimF (P : Program) (fn : Func) : Option (ACode × List ARes) :=
  match fn.body with
  | some c => match slimC P fn.ntmps c, mapO (slimR P) fn.results.toList with
    | some ac, some rs => some (ac, rs)
    | _, _ => none
  | none => none
theorem fn_slim {Φ : Phi} {f : FuncId} {fn : Func} {ac : ACode} {rs : List ARes} {sp : Spec} (hf : P.funcs[f]? = some fn) (hs : slimF P fn = some (ac, rs)) (hΦ : PhiOk P Φ)
    (h : ∀ as hp r, sp as hp = some r → r.pre → as.length ≤ fn.ntmps ∧ awp Φ hp.length ac (retQ rs hp.length r) ⟨slots 0 as, hp⟩) : FnOk P f sp := by
  unfold slimF at hs
  split at hs
  · rename_i c hc
    split at hs
    · rename_i ac' rs' h1 h2
      simp only [Option.some.injEq, Prod.mk.injEq] at hs
      obtain ⟨rfl, rfl⟩ := hs
      exact fn_ok hf hc (slimC_ok h1) (all2_mapO (fun _ _ => slimR_ok) h2) hΦ h
    · cases hs
  · cases hs
end
end Go.Proofs.Ytbefhofmbiedgaa
