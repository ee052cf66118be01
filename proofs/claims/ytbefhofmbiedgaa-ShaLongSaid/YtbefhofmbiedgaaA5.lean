/- Slices, strings, pointers, fields on abstract values: what reading gives. Over any program; no condition. -/
import Derived.Test.YtbefhofmbiedgaaA4
namespace Go.Proofs.Ytbefhofmbiedgaa
set_option linter.all false
open Go.RowKit

section
variable {P : Program} {F : Nat → Prop} {w0 w : World} {S : Nat → Prop} {ρ : Rho} {hp : List AObj}

def aToStr (hp : List AObj) (x : AV) : Option (AV × Prop) :=
  match view hp 1 x with
  | some xs => some (.str (unB xs), xs = Bs (unB xs))
  | none => none
theorem aToStr_ok (H : ObsOk w S ρ hp) {x r : AV} {p : Prop} {v : Value} (h : aToStr hp x = some (r, p)) (hp' : p) (hx : Vl w S ρ x v) {src dst e : TypeId} (hs : P.underlying src = some (.slice e)) (he : P.underlying e = some (.int .u8)) (hd : P.underlying dst = some .string) :
    ∃ q, (convert src dst v).run P w = .ok q w ∧ Vl w S ρ r q := by
  unfold aToStr at h
  split at h
  · rename_i xs hv
    injection h with h; injection h with e1 e2; subst e1 e2
    obtain ⟨A, n, c, us, rfl, hM⟩ := view_ok H hv hx
    rw [hp'] at hM
    obtain ⟨h1, h2⟩ := hM.rd
    exact ⟨_, run_str w hs he h1 h2 hd, Vl.str' _⟩
  · cases h

def aIdxS (x i : AV) : Option (AV × Prop) :=
  match x, i with
  | .str l, .int _ n => some (.int .u8 (at8 l n.toNat), 0 ≤ n ∧ n < l.length)
  | _, _ => none
theorem aIdxS_ok {x i r : AV} {p : Prop} {v u : Value} (h : aIdxS x i = some (r, p)) (hp' : p) (hx : Vl w S ρ x v) (hi : Vl w S ρ i u) {t : TypeId} (ht : P.underlying t = some .string) :
    ∃ q, (Instr.index t v u).run P w = .ok q w ∧ Vl w S ρ r q := by
  unfold aIdxS at h
  split at h
  · rename_i l k n
    injection h with h; injection h with e1 e2; subst e1 e2
    rw [hx.str, hi.int]
    have hlen : (⟨l.toArray⟩ : ByteArray).size = l.length := rfl
    obtain ⟨h0, h1⟩ := hp'
    refine ⟨.int .u8 (at8 l n.toNat), ?_, Vl.int' _ _⟩
    rw [run_index_string _ _ _ _ _ ht, dif_pos ⟨h0, by rw [hlen]; exact h1⟩]
    have e2 : (⟨l.toArray⟩ : ByteArray)[n.toNat]'(by rw [hlen]; omega) = l.getD n.toNat 0 := by
      rw [List.getD_eq_getElem?_getD, List.getElem?_eq_getElem (by omega)]; rfl
    rw [e2]; rfl
  · cases h

def zv (z : AV) : Value :=
  match z with
  | .int k _ => .int k 0
  | _ => undef
def aIdxA (n : Nat) (z : AV) (x i : AV) : Option (AV × Prop) :=
  match x, i with
  | .blob cs, .int _ k => some (ofC (cs.getD k.toNat (zv z)), 0 ≤ k ∧ k < n ∧ k < cs.length)
  | _, _ => none
theorem aIdxA_ok {n : Nat} {z x i r : AV} {p : Prop} {v u : Value} (h : aIdxA n z x i = some (r, p)) (hp' : p) (hx : Vl w S ρ x v) (hi : Vl w S ρ i u) {t e : TypeId} (ht : P.underlying t = some (.array n e)) (hsz : (P.info? e).map (·.size) = some 1)
    (hag : (match P.underlying e with | some (.struct _) | some (.array _ _) | none => false | _ => true) = true) :
    ∃ q, (Instr.index t v u).run P w = .ok q w ∧ Vl w S ρ r q := by
  unfold aIdxA at h
  split at h
  · rename_i cs k m
    injection h with h; injection h with e1 e2; subst e1 e2
    rw [hx.blob, hi.int]
    obtain ⟨h0, h1, h2⟩ := hp'
    refine ⟨cs.getD m.toNat (zv z), ?_, vl_ofC _⟩
    obtain ⟨i, hi1, hi2⟩ := Option.map_eq_some_iff.1 hsz
    have hpart : (part e cs.toArray m.toNat).run P w = .ok (cs.getD m.toNat (zv z)) w := by
      have hg : cs.toArray[m.toNat]? = some (cs.getD m.toNat (zv z)) := by
        rw [List.getElem?_toArray, List.getD_eq_getElem?_getD, List.getElem?_eq_getElem (by omega)]; rfl
      have hag' : (isAgg e).run P w = .ok false w := by
        cases hu : P.underlying e with
        | none => rw [hu] at hag; cases hag
        | some d =>
          rw [hu] at hag
          simp only [isAgg, Sem.run_bind, run_underlying hu, Result.andThen_ok]
          cases d <;> first | rfl | cases hag
      simp [part, hag', hg]
    simp [Instr.index, asIntOf, run_underlying ht, h0, h1, sizeOf, typeInfo, hi1, hi2, hpart]
  · cases h

/-- The address of an element of a slice. -/
def aIa (hp : List AObj) (sz : Nat) (z : AV) (x i : AV) : Option (AV × Prop) :=
  match i with
  | .int _ k => match x with
    | .sl s xs => if s = sz then some (.ptr sz (xs.getD k.toNat z) 0 0, 0 ≤ k ∧ k < xs.length) else none
    | .own id v => match hp[id]? with
      | some (.row _ s v' xs) => if v = v' ∧ s = sz then some (.rowp id v k.toNat z 0 0, 0 ≤ k ∧ k < xs.length) else none
      | some (.froz s v' xs) => if v = v' ∧ s = sz then some (.ptr sz (xs.getD k.toNat z) 0 0, 0 ≤ k ∧ k < xs.length) else none
      | _ => none
    | .ownv id v j m => match hp[id]? with
      | some (.row _ s v' xs) => if v = v' ∧ s = sz then some (.rowp id v (j + k.toNat) z 0 0, 0 ≤ k ∧ k < m ∧ j + m ≤ xs.length) else none
      | _ => none
    | _ => none
  | _ => none
theorem run_indexAt_sl {t e : TypeId} {sz : Nat} (ht : P.underlying t = some (.slice e)) (hsz : (P.info? e).map (·.size) = some sz) (ad : Addr) (n c : Nat) (k : IntKind) (i : Int) (h0 : 0 ≤ i) (h1 : i < n) :
    (Instr.indexAt t (.slice (some ad) n c) (.int k i)).run P w = .ok (.pointer (some (ad.add (i.toNat * sz)))) w := by
  obtain ⟨j, hj1, hj2⟩ := Option.map_eq_some_iff.1 hsz
  simp [Instr.indexAt, asIntOf, run_underlying ht, h0, h1, sizeOf, typeInfo, hj1, hj2]
theorem Mem.ptr {sz : Nat} {xs : List AV} {b o c : Nat} {us : List Value} (hS : S b) (hc : Css w S rho0 (prs sz xs) us) (hcell : ∀ j, j < us.length → w.cell? ⟨b, o + j, none⟩ = us[j]?) (z : AV) (k : Nat) (hk : k < xs.length) :
    Vl w S ρ (.ptr sz (xs.getD k z) 0 0) (.pointer (some (Addr.add ⟨b, o, none⟩ (k * sz)))) := by
  have hx : xs[k]? = some (xs.getD k z) := by rw [List.getD_eq_getElem?_getD, List.getElem?_eq_getElem hk]; rfl
  obtain ⟨h1, h2⟩ := hc.elem hx
  have hl : ((us.drop (k * sz)).take sz).length = sz := by rw [List.length_take, List.length_drop]; omega
  rw [add_spot]
  refine .inr ⟨[_], ?_, rfl⟩
  refine .ptr sz _ 0 0 _ b (o + k * sz) hS h1 hl fun j hj => ?_
  rw [hl] at hj
  rw [List.getElem?_take, if_pos hj, List.getElem?_drop, ← hcell _ (by omega), Nat.add_assoc]
theorem aIa_ok (H : ObsOk w S ρ hp) {sz : Nat} {z x i r : AV} {p : Prop} {v u : Value} (h : aIa hp sz z x i = some (r, p)) (hp' : p) (hx : Vl w S ρ x v) (hi : Vl w S ρ i u) {t e : TypeId} (ht : P.underlying t = some (.slice e)) (hsz : (P.info? e).map (·.size) = some sz) :
    ∃ q, (Instr.indexAt t v u).run P w = .ok q w ∧ Vl w S ρ r q := by
  have stable : ∀ {xs : List AV} {v : Value} {k : Int} {kk : IntKind}, Cs w S ρ (.sl sz xs) [v] → 0 ≤ k → k < xs.length → ∃ q, (Instr.indexAt t v (.int kk k)).run P w = .ok q w ∧ Vl w S ρ (.ptr sz (xs.getD k.toNat z) 0 0) q := by
    intro xs v k kk hc h0 h1
    have : ∀ x vs, Cs w S ρ x vs → x = .sl sz xs → vs = [v] → ∃ us b o c, S b ∧ Css w S rho0 (prs sz xs) us ∧ (∀ j, j < us.length → w.cell? ⟨b, o + j, none⟩ = us[j]?) ∧ v = .slice (some ⟨b, o, none⟩) xs.length c := by
      intro x vs hc
      cases hc with
      | sl0 => intro e; cases e; simp at h1; omega
      | sl s ys us b o c hS k1 k2 k3 k4 k5 => intro e ev; cases e; cases ev; exact ⟨us, b, o, c, hS, k1.parts, k3, rfl⟩
      | _ => intro e; cases e
    obtain ⟨us, b, o, c, hS, hcs, hcell, rfl⟩ := this _ _ hc rfl rfl
    exact ⟨_, run_indexAt_sl ht hsz _ _ _ _ _ h0 h1, Mem.ptr hS hcs hcell z k.toNat (by omega) (c := c)⟩
  unfold aIa at h
  split at h
  · rename_i kk k
    rw [hi.int]
    split at h
    · rename_i s xs
      split at h
      · rename_i e; subst e; injection h with h; injection h with e1 e2; subst e1 e2
        exact stable hx.sl hp'.1 hp'.2
      · cases h
    · rename_i id ver
      obtain ⟨L, hL, rfl⟩ := hx.own
      split at h
      · rename_i e' s v' xs ho
        split at h
        · rename_i e; obtain ⟨rfl, rfl⟩ := e; injection h with h; injection h with e1 e2; subst e1 e2
          obtain ⟨L', us, h1, h2, h3, h4, h5, h6⟩ := H _ _ ho (by simp)
          rw [hL] at h1; injection h1 with h1; subst h1
          obtain ⟨hl, h4⟩ := h4
          rcases h4 with ⟨k1, k2, k3⟩ | ⟨g, cur, fr, k1, k2, k3, k4, k5, k6, k7⟩
          · omega
          · rw [k1]
            refine ⟨_, run_indexAt_sl ht hsz _ _ _ _ _ hp'.1 (by omega), ?_⟩
            rw [add_spot, Nat.zero_add]
            have := Cs.rowp (w := w) (S := S) id ver k.toNat z 0 0 g L hL k1
            rw [h3] at this
            exact .inr ⟨_, this, rfl⟩
        · cases h
      · rename_i s v' xs ho
        split at h
        · rename_i e; obtain ⟨rfl, rfl⟩ := e; injection h with h; injection h with e1 e2; subst e1 e2
          obtain ⟨L', h1, h2, h3, h4⟩ := H _ _ ho (by simp)
          rw [hL] at h1; injection h1 with h1; subst h1
          exact stable (h4.ext (fun _ _ => rfl) (fun _ h => h) (fun _ _ _ h => by cases h)) hp'.1 hp'.2
        · cases h
      · cases h
    · rename_i id ver j m
      obtain ⟨L, A0, hL, hm, hA0, rfl⟩ := hx.ownv
      split at h
      · rename_i e' s v' xs ho
        split at h
        · rename_i e; obtain ⟨rfl, rfl⟩ := e; injection h with h; injection h with e1 e2; subst e1 e2
          obtain ⟨L', us, h1, h2, h3, h4, h5, h6⟩ := H _ _ ho (by simp)
          rw [hL] at h1; injection h1 with h1; subst h1
          obtain ⟨hl, h4⟩ := h4
          obtain ⟨p0, p1, p2⟩ := hp'
          rcases h4 with ⟨k1, k2, k3⟩ | ⟨g, cur, fr, k1, k2, k3, k4, k5, k6, k7⟩
          · omega
          · have hcut : A0 = some ⟨g, j * s, none⟩ := by
              rw [hA0 (.inl (by omega))]
              unfold cutA
              rw [k1, if_neg (by omega), h3]; simp [add_spot]
            rw [hcut]
            refine ⟨_, run_indexAt_sl ht hsz _ _ _ _ _ p0 (by omega), ?_⟩
            rw [add_spot]
            have := Cs.rowp (w := w) (S := S) id ver (j + k.toNat) z 0 0 g L hL k1
            rw [h3, Nat.add_mul] at this
            exact .inr ⟨_, this, rfl⟩
        · cases h
      · cases h
    · cases h
  · cases h

/-- The address of a cell of an array behind a pointer. -/
def aIaA (n : Nat) (x i : AV) : Option (AV × Prop) :=
  match x, i with
  | .ref id o 0, .int _ k => some (.ref id o k.toNat, 0 ≤ k ∧ k < n)
  | .ptr sz x o 0, .int _ k => some (.ptr sz x o k.toNat, 0 ≤ k ∧ k < n)
  | .rowp id v j z o 0, .int _ k => some (.rowp id v j z o k.toNat, 0 ≤ k ∧ k < n)
  | _, _ => none
theorem Vl.ref {id o off : Nat} {v : Value} (h : Vl w S ρ (.ref id o off) v) : ∃ g L, ρ id 0 = some L ∧ L.A = some ⟨g, 0, none⟩ ∧ v = .pointer (some ⟨g, o + off, none⟩) := by
  rcases h with h | ⟨us, h, e⟩
  · cases h
  · cases h with
    | ref _ _ _ g L h1 h2 => exact ⟨g, L, h1, h2, e⟩
theorem Vl.ptr {sz : Nat} {x : AV} {o off : Nat} {v : Value} (h : Vl w S ρ (.ptr sz x o off) v) : ∃ us b base, S b ∧ Cs w S rho0 x us ∧ us.length = sz ∧ (∀ j, j < us.length → w.cell? ⟨b, base + j, none⟩ = us[j]?) ∧ v = .pointer (some ⟨b, base + (o + off), none⟩) := by
  rcases h with h | ⟨us, h, e⟩
  · cases h
  · cases h with
    | ptr _ _ _ _ us b base h1 h2 h3 h4 => exact ⟨us, b, base, h1, h2, h3, h4, e⟩
theorem Vl.rowp {id ver i : Nat} {z : AV} {o off : Nat} {v : Value} (h : Vl w S ρ (.rowp id ver i z o off) v) : ∃ g L, ρ id ver = some L ∧ L.A = some ⟨g, 0, none⟩ ∧ v = .pointer (some ⟨g, i * L.sz + (o + off), none⟩) := by
  rcases h with h | ⟨us, h, e⟩
  · cases h
  · cases h with
    | rowp _ _ _ _ _ _ g L h1 h2 => exact ⟨g, L, h1, h2, e⟩
theorem run_indexAt_ar {t e : TypeId} {n : Nat} (ht : P.underlying t = some (.array n e)) (hsz : (P.info? e).map (·.size) = some 1) (ad : Addr) (k : IntKind) (i : Int) (h0 : 0 ≤ i) (h1 : i < n) :
    (Instr.indexAt t (.pointer (some ad)) (.int k i)).run P w = .ok (.pointer (some (ad.add i.toNat))) w := by
  obtain ⟨j, hj1, hj2⟩ := Option.map_eq_some_iff.1 hsz
  simp [Instr.indexAt, asIntOf, run_underlying ht, h0, h1, sizeOf, typeInfo, hj1, hj2, Instr.sureAddr]
theorem aIaA_ok {n : Nat} {x i r : AV} {p : Prop} {v u : Value} (h : aIaA n x i = some (r, p)) (hp' : p) (hx : Vl w S ρ x v) (hi : Vl w S ρ i u) {t e : TypeId} (ht : P.underlying t = some (.array n e)) (hsz : (P.info? e).map (·.size) = some 1) :
    ∃ q, (Instr.indexAt t v u).run P w = .ok q w ∧ Vl w S ρ r q := by
  unfold aIaA at h
  split at h
  · injection h with h; injection h with e1 e2; subst e1 e2
    obtain ⟨g, L, h1, h2, rfl⟩ := hx.ref
    rw [hi.int]
    refine ⟨_, run_indexAt_ar ht hsz _ _ _ hp'.1 hp'.2, ?_⟩
    rw [add_spot]
    exact .inr ⟨_, .ref _ _ _ g L h1 h2, rfl⟩
  · injection h with h; injection h with e1 e2; subst e1 e2
    obtain ⟨us, b, base, h1, h2, h3, h4, rfl⟩ := hx.ptr
    rw [hi.int]
    refine ⟨_, run_indexAt_ar ht hsz _ _ _ hp'.1 hp'.2, ?_⟩
    rw [add_spot, Nat.add_zero, Nat.add_assoc]
    exact .inr ⟨_, .ptr _ _ _ _ us b base h1 h2 h3 h4, rfl⟩
  · injection h with h; injection h with e1 e2; subst e1 e2
    obtain ⟨g, L, h1, h2, rfl⟩ := hx.rowp
    rw [hi.int]
    refine ⟨_, run_indexAt_ar ht hsz _ _ _ hp'.1 hp'.2, ?_⟩
    rw [add_spot, Nat.add_zero, Nat.add_assoc]
    exact .inr ⟨_, .rowp _ _ _ _ _ _ g L h1 h2, rfl⟩
  · cases h

/-- A field's address. -/
def aFa (d : Nat) (x : AV) : Option (AV × Prop) :=
  match x with
  | .ref id o 0 => some (.ref id (o + d) 0, True)
  | .ptr sz x o 0 => some (.ptr sz x (o + d) 0, True)
  | .rowp id v j z o 0 => some (.rowp id v j z (o + d) 0, True)
  | _ => none
theorem run_fieldAt {t : TypeId} {fs : Array Field} {k : Nat} {f : Field} (ht : P.underlying t = some (.struct fs)) (hk : fs[k]? = some f) (hsz : (P.info? f.type).map (fun i => decide (i.size = 0)) = some false) (ad : Addr) :
    (Instr.fieldAt t (.pointer (some ad)) k).run P w = .ok (.pointer (some (ad.add f.offset))) w := by
  obtain ⟨j, hj1, hj2⟩ := Option.map_eq_some_iff.1 hsz
  have hj3 : ¬ j.size = 0 := by simpa using hj2
  simp [Instr.fieldAt, run_underlying ht, hk, Instr.sureAddr, fieldPlace, sizeOf, typeInfo, hj1, hj3]
theorem aFa_ok {x r : AV} {p : Prop} {v : Value} {t : TypeId} {fs : Array Field} {k : Nat} {f : Field} (h : aFa f.offset x = some (r, p)) (hx : Vl w S ρ x v) (ht : P.underlying t = some (.struct fs)) (hk : fs[k]? = some f) (hsz : (P.info? f.type).map (fun i => decide (i.size = 0)) = some false) :
    ∃ q, (Instr.fieldAt t v k).run P w = .ok q w ∧ Vl w S ρ r q := by
  unfold aFa at h
  split at h
  · injection h with h; injection h with e1 e2; subst e1 e2
    obtain ⟨g, L, h1, h2, rfl⟩ := hx.ref
    refine ⟨_, run_fieldAt ht hk hsz _, ?_⟩
    rw [add_spot, Nat.add_zero]
    exact .inr ⟨_, .ref _ _ 0 g L h1 h2, rfl⟩
  · injection h with h; injection h with e1 e2; subst e1 e2
    obtain ⟨us, b, base, h1, h2, h3, h4, rfl⟩ := hx.ptr
    refine ⟨_, run_fieldAt ht hk hsz _, ?_⟩
    rw [add_spot, Nat.add_zero, Nat.add_assoc]
    exact .inr ⟨_, .ptr _ _ _ 0 us b base h1 h2 h3 h4, rfl⟩
  · injection h with h; injection h with e1 e2; subst e1 e2
    obtain ⟨g, L, h1, h2, rfl⟩ := hx.rowp
    refine ⟨_, run_fieldAt ht hk hsz _, ?_⟩
    rw [add_spot, Nat.add_zero, Nat.add_assoc]
    exact .inr ⟨_, .rowp _ _ _ _ _ 0 g L h1 h2, rfl⟩
  · cases h
end
end Go.Proofs.Ytbefhofmbiedgaa
