import Derived.Test.YtlkaaoekbmegkaaDoorQF02b
namespace Go.Proofs.YtlkaaoekbmegkaaDoor
set_option linter.all false
open Go.RowKit
open Go.Lib (index hasPrefix cut indexAny itoa)
def contG : Nat → List UInt8 → List UInt8 → List UInt8 × List UInt8
  | 0, s, v => (s, v)
  | f + 1, s, v => match lineG s [32] with
    | some (m, r) => contG f r (v ++ ([10] ++ m))
    | none => (s, v)
theorem contG_len : ∀ (f : Nat) (s v : List UInt8), (contG f s v).1.length ≤ s.length ∧ (contG f s v).2.length ≤ v.length + f * (s.length + 1) := by
  intro f
  induction f with
  | zero => intro s v; simp [contG]
  | succ f ih =>
    intro s v
    unfold contG
    cases h : lineG s [32] with
    | none => simp only; exact ⟨Nat.le_refl _, by omega⟩
    | some p =>
      obtain ⟨m, r⟩ := p
      have := lineG_len h
      obtain ⟨i1, i2⟩ := ih r (v ++ ([10] ++ m))
      simp only [List.length_append, List.length_cons, List.length_nil] at i1 i2 ⊢
      refine ⟨by omega, ?_⟩
      have hm : f * (r.length + 1) ≤ f * (s.length + 1) := Nat.mul_le_mul_left _ (by omega)
      rw [Nat.add_mul]; omega
theorem contG_s : ∀ (f : Nat) (s v : List UInt8), (contG f s v).1.length + (contG f s v).2.length ≤ s.length + v.length := by
  intro f
  induction f with
  | zero => intro s v; simp [contG]
  | succ f ih =>
    intro s v
    unfold contG
    cases h : lineG s [32] with
    | none => simp
    | some p =>
      obtain ⟨m, r⟩ := p
      have hc : m.length + 1 + 1 + r.length ≤ s.length := by
        unfold lineG at h
        split at h
        · rename_i hc
          injection h with h; injection h with h1 h2; subst h1 h2
          have := congrArg List.length (cut_t hc.1)
          simp only [List.length_append, List.length_cons, List.length_nil] at this
          have h3 : [(32 : UInt8)].isPrefixOf (cut s [10]).1 = true := hc.2
          rw [List.isPrefixOf_iff_prefix] at h3
          have h4 := h3.length_le
          simp only [List.length_drop, List.length_cons, List.length_nil] at h4 ⊢
          omega
        · cases h
      have := ih r (v ++ ([10] ++ m))
      simp only [List.length_append, List.length_cons, List.length_nil] at this ⊢
      omega
def extra1 (s : List UInt8) : List UInt8 × List UInt8 × Bool × ExL :=
  let m := mustG s false []
  let c := cut m.1 [32]
  let z := contG (m.2.1.length + 1) m.2.1 c.2.1
  (z.1, z.2, m.2.2 || !c.2.2 || !extraB c.1, (c.1, z.2))
def extrasG : Nat → List UInt8 → Bool → List ExL → List UInt8 × Bool × List ExL
  | 0, s, b, acc => (s, b, acc)
  | f + 1, s, b, acc => if b = false ∧ hasPrefix s [10] = false then extrasG f (extra1 s).1 (extra1 s).2.2.1 (acc ++ [(extra1 s).2.2.2]) else (s, b, acc)
theorem mustG_dec (s w : List UInt8) (b : Bool) : (mustG s b w).2.2 = true ∨ (mustG s b w).2.1.length < s.length := by
  unfold mustG
  cases h : lineG s w with
  | none => exact .inl rfl
  | some p => obtain ⟨x, r⟩ := p; exact .inr (lineG_len h).2
def wgt (s : List UInt8) (b : Bool) : Nat := s.length + (if b = true then 0 else 1)
theorem extra1_dec (s : List UInt8) : wgt (extra1 s).1 (extra1 s).2.2.1 < wgt s false := by
  unfold wgt extra1
  have h1 := (contG_len ((mustG s false []).2.1.length + 1) (mustG s false []).2.1 (cut (mustG s false []).1 [32]).2.1).1
  have h2 := (mustG_len s false []).2
  rcases mustG_dec s [] false with h | h
  · simp only [h, Bool.true_or, if_true]
    simp; omega
  · have hx : ∀ b : Bool, (if b = true then 0 else 1 : Nat) ≤ 1 := by intro b; split <;> omega
    have h3 := hx ((mustG s false []).2.2 || !(cut (mustG s false []).1 [32]).2.2 || !extraB (cut (mustG s false []).1 [32]).1)
    show _ < s.length + 1
    simp only
    omega
def cextrasS : Spec := fun xs hp => match xs, hp with
  | [.ref 0 0 0], [.cells T [(1, .str s), (1, .bool b)]] =>
    some ⟨.own 1 (extrasG (wgt s b + 1) s b []).2.2.length, [.cells T [(1, .str (extrasG (wgt s b + 1) s b []).1), (1, .bool (extrasG (wgt s b + 1) s b []).2.1)], .row 54 2 (extrasG (wgt s b + 1) s b []).2.2.length ((extrasG (wgt s b + 1) s b []).2.2.map exV)], s.length ≤ 1000000⟩
  | _, _ => none
def phiExt : Phi := phiL [(25, [], mustS), (40, [], lineS), (22, [], hasPreS), (39, [], cutS), (16, [], cextraS)]
theorem phiExt_ok : PhiOk Tryd.prog phiExt := phi_cons must_ok (by kernel_rfl) (phi_cons line_ok (by kernel_rfl) (phi_cons hasPre_ok (by kernel_rfl) (phi_cons cut_ok (by kernel_rfl) (phi_cons cextra_ok (by kernel_rfl) phi_nil))))
theorem phiExt_1 : phiExt 25 = some ([], mustS) := rfl
theorem phiExt_2 : phiExt 40 = some ([], lineS) := rfl
theorem phiExt_3 : phiExt 22 = some ([], hasPreS) := rfl
theorem phiExt_4 : phiExt 39 = some ([], cutS) := rfl
theorem phiExt_5 : phiExt 16 = some ([], cextraS) := rfl
set_option maxHeartbeats 4000000 in
theorem cextras_ok : FnOk Tryd.prog 24 cextrasS := by
  refine fn_slim2 Tryd.func24 s_cextras phiExt_ok ?_
  intro xs hp r hs hp'
  unfold cextrasS at hs
  split at hs
  · injection hs with hs; subst hs
    rename_i T s0 b0
    have p1 : s0.length ≤ 1000000 := hp'
    refine ⟨len_le (by kernel_rfl), ?_⟩
    generalize hE : extrasG (wgt s0 b0 + 1) s0 b0 [] = E at *
    simp only [c_cextras, go_sem, Nat.reduceDiv, Nat.reduceMod, ↓reduceIte, Nat.reduceEqDiff, Nat.reduceBEq, Nat.reduceSub, Nat.reduceLT, Nat.reduceAdd, Nat.reduceLeDiff, reduceCtorEq, Int.reduceEq, Int.reduceNe, Int.reduceLT, Int.reduceLE, Int.reduceToNat]
    refine loop2P [(3, 54, 2)] [0, 3] [0, 1] (fun q : Nat × List UInt8 × Bool × List ExL => ⟨[(0, .ref 0 0 0), (3, .own 1 q.2.2.2.length)], [.cells T [(1, .str q.2.1), (1, .bool q.2.2.1)], .row 54 2 q.2.2.2.length (q.2.2.2.map exV)]⟩)
      (fun q => wgt q.2.1 q.2.2.1 < q.1 ∧ extrasG q.1 q.2.1 q.2.2.1 q.2.2.2 = E ∧ q.2.1.length ≤ 1000000 ∧ q.1 + q.2.2.2.length ≤ 2000000) (fun q => q.1) (wgt s0 b0 + 1, s0, b0, []) rfl ⟨Nat.lt_succ_self _, hE, p1, by simp only [List.length_nil, wgt]; split <;> omega⟩ ⟨rfl, by rfl⟩ (fun q hq R hR => ?_)
    obtain ⟨f, s, b, acc⟩ := q
    simp only at hq
    obtain ⟨h1, h2, h3, h4⟩ := hq
    simp only at hR ⊢
    obtain ⟨f, rfl⟩ : ∃ g, f = g + 1 := ⟨f - 1, by omega⟩
    cases hb : b with
    | true =>
      subst hb
      have e : E = (s, true, acc) := by rw [← h2]; unfold extrasG; rw [if_neg (by simp)]
      rw [e]
      simp only [b_cextras_1, t_cextras_1, r_cextras, phiExt_3, hasPreS, go_sem, Nat.reduceDiv, Nat.reduceMod, ↓reduceIte, Nat.reduceEqDiff, Nat.reduceBEq, Nat.reduceSub, Nat.reduceLT, Nat.reduceAdd, Nat.reduceLeDiff, reduceCtorEq, Int.reduceEq, Int.reduceNe, Int.reduceLT, Int.reduceLE, Int.reduceToNat]
    | false =>
      subst hb
      cases hn : hasPrefix s [10] with
      | true =>
        have e : E = (s, false, acc) := by rw [← h2]; unfold extrasG; rw [if_neg (by rw [hn]; simp)]
        rw [e]
        simp only [b_cextras_1, t_cextras_1, r_cextras, phiExt_3, hasPreS, hn, go_sem, Nat.reduceDiv, Nat.reduceMod, ↓reduceIte, Nat.reduceEqDiff, Nat.reduceBEq, Nat.reduceSub, Nat.reduceLT, Nat.reduceAdd, Nat.reduceLeDiff, reduceCtorEq, Int.reduceEq, Int.reduceNe, Int.reduceLT, Int.reduceLE, Int.reduceToNat]
      | false =>
        have e : extrasG f (extra1 s).1 (extra1 s).2.2.1 (acc ++ [(extra1 s).2.2.2]) = E := by rw [← h2]; conv => rhs; unfold extrasG; rw [if_pos ⟨rfl, hn⟩]
        have hdec := extra1_dec s
        have hw0 : wgt s false = s.length + 1 := rfl
        have hm := mustG_len s false []
        have hc1 := cutl1 (mustG s false []).1 [32]
        have hc2 := cutl2 (mustG s false []).1 [32]
        simp only [b_cextras_1, phiExt_1, phiExt_3, phiExt_4, mustS, hasPreS, cutS, hn, go_sem, Nat.reduceDiv, Nat.reduceMod, ↓reduceIte, Nat.reduceEqDiff, Nat.reduceBEq, Nat.reduceSub, Nat.reduceLT, Nat.reduceAdd, Nat.reduceLeDiff, reduceCtorEq, Int.reduceEq, Int.reduceNe, Int.reduceLT, Int.reduceLE, Int.reduceToNat]
        have hd0 : (mustG s false []).1.length + (mustG s false []).2.1.length ≤ s.length := by
          unfold mustG
          cases h : lineG s [] with
          | none => simp
          | some p =>
            obtain ⟨x, rr⟩ := p
            unfold lineG at h
            split at h
            · rename_i hcc
              injection h with h; injection h with h5 h6; subst h5 h6
              have := congrArg List.length (cut_t hcc.1)
              simp only [List.length_append, List.length_cons, List.length_nil] at this
              simp only [List.length_drop]; omega
            · cases h
        refine ⟨by omega, by omega, ?_⟩
        unfold extra1 at e hdec
        simp only at e hdec
        generalize mustG s false [] = M at *
        generalize cut M.1 [32] = C at *
        generalize hZ : contG (M.2.1.length + 1) M.2.1 C.2.1 = Z at *
        refine loop2P [] [0, 3, 7, 8] [0, 1, 2] (fun q : Nat × List UInt8 × List UInt8 => ⟨[(0, .ref 0 0 0), (3, .own 1 acc.length), (7, .bool C.2.2), (8, .ref 2 0 0)], [.cells T [(1, .str q.2.1), (1, .bool M.2.2)], .row 54 2 acc.length (acc.map exV), .cells 54 [(1, .str C.1), (1, .str q.2.2)]]⟩)
          (fun q => q.2.1.length < q.1 ∧ contG q.1 q.2.1 q.2.2 = Z ∧ q.2.1.length + q.2.2.length ≤ 2000000) (fun q => q.1) (M.2.1.length + 1, M.2.1, C.2.1) rfl ⟨Nat.lt_succ_self _, hZ, by simp only; omega⟩ ⟨rfl, by rfl⟩ (fun q hq R2 hR2 => ?_)
        obtain ⟨g, s', v⟩ := q
        simp only at hq
        obtain ⟨i1, i2, i3⟩ := hq
        simp only at hR2 ⊢
        obtain ⟨g, rfl⟩ : ∃ k, g = k + 1 := ⟨g - 1, by omega⟩
        unfold contG at i2
        cases hl : lineG s' [32] with
        | some p =>
          obtain ⟨m, rr⟩ := p
          rw [hl] at i2
          simp only at i2
          have hll := lineG_len hl
          have hcc : m.length + 1 + 1 + rr.length ≤ s'.length := by
            have hx := contG_s 1 s' []
            unfold contG at hx
            rw [hl] at hx
            have hy := hl
            unfold lineG at hy
            split at hy
            · rename_i hcc
              injection hy with hy; injection hy with h5 h6; subst h5 h6
              have := congrArg List.length (cut_t hcc.1)
              simp only [List.length_append, List.length_cons, List.length_nil] at this
              have h3 : [(32 : UInt8)].isPrefixOf (cut s' [10]).1 = true := hcc.2
              rw [List.isPrefixOf_iff_prefix] at h3
              have h4 := h3.length_le
              simp only [List.length_drop, List.length_cons, List.length_nil] at h4 ⊢
              omega
            · cases hy
          simp only [b_cextras_0, phiExt_2, lineS, hl, lineR, go_sem, Nat.reduceDiv, Nat.reduceMod, ↓reduceIte, Nat.reduceEqDiff, Nat.reduceBEq, Nat.reduceSub, Nat.reduceLT, Nat.reduceAdd, Nat.reduceLeDiff, reduceCtorEq, Int.reduceEq, Int.reduceNe, Int.reduceLT, Int.reduceLE, Int.reduceToNat]
          refine ⟨by omega, by (first | omega | (simp only [lenOk, bytesOk, inI, IntKind.bits, List.length_append, Bs_len, List.length_cons, List.length_nil, List.length_map, List.length_take, List.length_drop, List.length_replicate]; omega)), by (first | omega | (simp only [lenOk, bytesOk, inI, IntKind.bits, List.length_append, Bs_len, List.length_cons, List.length_nil, List.length_map, List.length_take, List.length_drop, List.length_replicate]; omega)), hR2 _ (g, rr, v ++ ([10] ++ m)) ⟨by simp only; omega, i2, by simp only [List.length_append, List.length_cons, List.length_nil]; omega⟩ (by simp only; omega) rfl⟩
        | none =>
          rw [hl] at i2
          simp only at i2
          subst i2
          simp only at e hdec
          have hlen : (acc.map exV ++ [AV.agg [(1, AV.str C.1), (1, AV.str v)]]).length = acc.length + 1 := by simp
          simp only [b_cextras_0, phiExt_2, lineS, hl, lineR, go_sem, Nat.reduceDiv, Nat.reduceMod, ↓reduceIte, Nat.reduceEqDiff, Nat.reduceBEq, Nat.reduceSub, Nat.reduceLT, Nat.reduceAdd, Nat.reduceLeDiff, reduceCtorEq, Int.reduceEq, Int.reduceNe, Int.reduceLT, Int.reduceLE, Int.reduceToNat]
          refine ⟨by omega, ?_⟩
          have fin : ∀ (bb : Bool) s'', bb = (M.2.2 || !C.2.2 || !extraB C.1) → kp [0, 3] [0, 1].length (toS s'') = some ⟨[(0, .ref 0 0 0), (3, .own 1 (acc.length + 1))], [.cells T [(1, .str s'), (1, .bool bb)], .row 54 2 (acc.length + 1) (acc.map exV ++ [.agg [(1, .str C.1), (1, .str v)]])]⟩ → R s'' := by
            intro bb s'' hbb hk
            refine hR s'' (f, s', bb, acc ++ [(C.1, v)]) ⟨?_, ?_, ?_, ?_⟩ ?_ ?_
            · simp only; rw [hbb]; rw [hw0] at h1 hdec; omega
            · simp only; rw [hbb]; exact e
            · simp only; rw [hw0] at hdec; unfold wgt at hdec; omega
            · simp only [List.length_append, List.length_cons, List.length_nil]; omega
            · simp only; omega
            · rw [hk]
              simp only [List.length_append, List.length_cons, List.length_nil, List.map_append, List.map_cons, List.map_nil, exV]
          cases h1 : M.2.2 with
          | true =>
            rw [h1] at fin
            simp only [t_cextras_0, h1, go_sem, Nat.reduceDiv, Nat.reduceMod, ↓reduceIte, Nat.reduceEqDiff, Nat.reduceBEq, Nat.reduceSub, Nat.reduceLT, Nat.reduceAdd, Nat.reduceLeDiff, reduceCtorEq, Int.reduceEq, Int.reduceNe, Int.reduceLT, Int.reduceLE, Int.reduceToNat]
            exact ⟨⟨by rw [hlen]; (first | omega | (simp only [lenOk, bytesOk, inI, IntKind.bits, List.length_append, Bs_len, List.length_cons, List.length_nil, List.length_map, List.length_take, List.length_drop, List.length_replicate]; omega)), by rw [hlen]; (first | omega | (simp only [lenOk, bytesOk, inI, IntKind.bits, List.length_append, Bs_len, List.length_cons, List.length_nil, List.length_map, List.length_take, List.length_drop, List.length_replicate]; omega))⟩, fin true _ rfl rfl⟩
          | false =>
            cases h2 : C.2.2 with
            | false =>
              rw [h1, h2] at fin
              simp only [t_cextras_0, h1, h2, go_sem, Nat.reduceDiv, Nat.reduceMod, ↓reduceIte, Nat.reduceEqDiff, Nat.reduceBEq, Nat.reduceSub, Nat.reduceLT, Nat.reduceAdd, Nat.reduceLeDiff, reduceCtorEq, Int.reduceEq, Int.reduceNe, Int.reduceLT, Int.reduceLE, Int.reduceToNat]
              exact ⟨⟨by rw [hlen]; (first | omega | (simp only [lenOk, bytesOk, inI, IntKind.bits, List.length_append, Bs_len, List.length_cons, List.length_nil, List.length_map, List.length_take, List.length_drop, List.length_replicate]; omega)), by rw [hlen]; (first | omega | (simp only [lenOk, bytesOk, inI, IntKind.bits, List.length_append, Bs_len, List.length_cons, List.length_nil, List.length_map, List.length_take, List.length_drop, List.length_replicate]; omega))⟩, fin true _ rfl rfl⟩
            | true =>
              rw [h1, h2] at fin
              simp only [t_cextras_0, phiExt_5, cextraS, h1, h2, go_sem, Nat.reduceDiv, Nat.reduceMod, ↓reduceIte, Nat.reduceEqDiff, Nat.reduceBEq, Nat.reduceSub, Nat.reduceLT, Nat.reduceAdd, Nat.reduceLeDiff, reduceCtorEq, Int.reduceEq, Int.reduceNe, Int.reduceLT, Int.reduceLE, Int.reduceToNat]
              exact ⟨by omega, ⟨by rw [hlen]; (first | omega | (simp only [lenOk, bytesOk, inI, IntKind.bits, List.length_append, Bs_len, List.length_cons, List.length_nil, List.length_map, List.length_take, List.length_drop, List.length_replicate]; omega)), by rw [hlen]; (first | omega | (simp only [lenOk, bytesOk, inI, IntKind.bits, List.length_append, Bs_len, List.length_cons, List.length_nil, List.length_map, List.length_take, List.length_drop, List.length_replicate]; omega))⟩, fin _ _ rfl rfl⟩
  · cases hs
end Go.Proofs.YtlkaaoekbmegkaaDoor
namespace Go.Proofs.YtlkaaoekbmegkaaDoor
set_option linter.all false
open Go.RowKit
open Go.Lib (index hasPrefix cut indexAny itoa)
def treW : List UInt8 := [116, 114, 101, 101, 32]
def parW : List UInt8 := [112, 97, 114, 101, 110, 116, 32]
def autW : List UInt8 := [97, 117, 116, 104, 111, 114, 32]
def comW : List UInt8 := [99, 111, 109, 109, 105, 116, 116, 101, 114, 32]
def parentsG : Nat → List UInt8 → Bool → List (List UInt8) → List UInt8 × Bool × List (List UInt8)
  | 0, s, b, acc => (s, b, acc)
  | f + 1, s, b, acc => if b = false ∧ hasPrefix s parW = true then parentsG f (mustG s b parW).2.1 ((mustG s b parW).2.2 || !goodQ (mustG s b parW).1) (acc ++ [pOut (mustG s b parW).1]) else (s, b, acc)
theorem parents_dec (s : List UInt8) : wgt (mustG s false parW).2.1 ((mustG s false parW).2.2 || !goodQ (mustG s false parW).1) < wgt s false := by
  have h2 := (mustG_len s false parW).2
  have hx : ∀ b : Bool, (if b = true then 0 else 1 : Nat) ≤ 1 := by intro b; split <;> omega
  unfold wgt
  rcases mustG_dec s parW false with h | h
  · simp only [h, Bool.true_or, if_true]; simp; omega
  · have h3 := hx ((mustG s false parW).2.2 || !goodQ (mustG s false parW).1)
    show _ < s.length + 1
    omega
theorem parentsG_len : ∀ (f : Nat) (s : List UInt8) (b : Bool) (acc : List (List UInt8)), (parentsG f s b acc).1.length ≤ s.length ∧ (∀ p ∈ acc, p.length = 20) → (∀ p ∈ (parentsG f s b acc).2.2, p.length = 20) := by
  intro f
  induction f with
  | zero => intro s b acc h; exact h.2
  | succ f ih =>
    intro s b acc h
    unfold parentsG at h ⊢
    split
    · rename_i hc
      rw [if_pos hc] at h
      refine ih _ _ _ ⟨?_, fun p hp => ?_⟩
      · have := (parentsG_l f (mustG s b parW).2.1 ((mustG s b parW).2.2 || !goodQ (mustG s b parW).1) (acc ++ [pOut (mustG s b parW).1]))
        exact this
      · rcases List.mem_append.1 hp with hp | hp
        · exact h.2 p hp
        · rw [List.mem_singleton.1 hp]; exact pOut_len _
    · exact h.2
where
  parentsG_l : ∀ (f : Nat) (s : List UInt8) (b : Bool) (acc : List (List UInt8)), (parentsG f s b acc).1.length ≤ s.length := by
    intro f
    induction f with
    | zero => intro s b acc; exact Nat.le_refl _
    | succ f ih =>
      intro s b acc
      unfold parentsG
      split
      · have := ih (mustG s b parW).2.1 ((mustG s b parW).2.2 || !goodQ (mustG s b parW).1) (acc ++ [pOut (mustG s b parW).1])
        have := (mustG_len s b parW).2
        omega
      · exact Nat.le_refl _
theorem extrasG_len : ∀ (f : Nat) (s : List UInt8) (b : Bool) (acc : List ExL), (extrasG f s b acc).1.length ≤ s.length := by
  intro f
  induction f with
  | zero => intro s b acc; exact Nat.le_refl _
  | succ f ih =>
    intro s b acc
    unfold extrasG
    split
    · have h1 := ih (extra1 s).1 (extra1 s).2.2.1 (acc ++ [(extra1 s).2.2.2])
      have h2 := (contG_len ((mustG s false []).2.1.length + 1) (mustG s false []).2.1 (cut (mustG s false []).1 [32]).2.1).1
      have h3 := (mustG_len s false []).2
      have h4 : (extra1 s).1.length ≤ s.length := by unfold extra1; simp only; omega
      omega
    · exact Nat.le_refl _
def pM (s : List UInt8) := mustG s false treW
def pB0 (s : List UInt8) : Bool := (pM s).2.2 || !goodQ (pM s).1
def pP (s : List UInt8) := parentsG (wgt (pM s).2.1 (pB0 s) + 1) (pM s).2.1 (pB0 s) []
def pA (s : List UInt8) := mustG (pP s).1 (pP s).2.1 autW
noncomputable def pB1 (s : List UInt8) : Bool := (pA s).2.2 || !personB (pA s).1
noncomputable def pC (s : List UInt8) := mustG (pA s).2.1 (pB1 s) comW
noncomputable def pB2 (s : List UInt8) : Bool := (pC s).2.2 || !personB (pC s).1
noncomputable def pE (s : List UInt8) := extrasG (wgt (pC s).2.1 (pB2 s) + 1) (pC s).2.1 (pB2 s) []
noncomputable def pL (s : List UInt8) := mustG (pE s).1 (pE s).2.1 []
noncomputable def parC11 (s : List UInt8) : ComL := ⟨pOut (pM s).1, (pP s).2.2, personV (pA s).1, personV (pC s).1, (pE s).2.2, (pL s).2.1⟩
noncomputable def parB11 (s : List UInt8) : Bool := !(pL s).2.2 && decide ((pL s).1 = [])
def comPs (t : List UInt8) (P : AV) (a c : WhoL) (E : AV) (m : List UInt8) : List (Nat × AV) :=
  [(20, .blob (t.map U)), (1, P), (1, .str a.name), (1, .str a.mail), (1, .int .i64 a.time), (1, .str a.zone), (1, .str c.name), (1, .str c.mail), (1, .int .i64 c.time), (1, .str c.zone), (1, E), (1, .str m)]
def z20L : List UInt8 := List.replicate 20 0
def com0 : List (Nat × AV) := comPs z20L (.con (.slice none 0 0)) who0 who0 (.con (.slice none 0 0)) []
def parR11 (c : ComL) (ok : Bool) (pr : Prop) : Option Ret := if ok = true then
    some ⟨.tup [.agg (comPs c.tree (.own 0 c.parents.length) c.author c.committer (.own 1 c.extras.length) c.message), .int .i64 0], [.row 30 20 c.parents.length (c.parents.map idAV), .row 54 2 c.extras.length (c.extras.map exV)], pr⟩
  else some ⟨.tup [.agg com0, .int .i64 4], [], pr⟩
noncomputable def cparS : Spec := fun xs hp => match xs, hp with
  | [.sl 1 bs], [] => parR11 (parC11 (unB bs)) (parB11 (unB bs)) (bs = Bs (unB bs) ∧ bs.length ≤ 1000000)
  | _, _ => none
theorem parR11_pre {c : ComL} {ok : Bool} {pr : Prop} {r : Ret} (h : parR11 c ok pr = some r) (hr : r.pre) : pr := by
  unfold parR11 at h
  split at h <;> (injection h with h; subst h; exact hr)
noncomputable def phiPar : Phi := phiL [(21, [], cidS), (23, [], cwhoS), (24, [], cextrasS), (25, [], mustS), (22, [], hasPreS), (28, [], kindS)]
theorem phiPar_ok : PhiOk Tryd.prog phiPar := phi_cons cid_ok (by kernel_rfl) (phi_cons cwho_ok (by kernel_rfl) (phi_cons cextras_ok (by kernel_rfl) (phi_cons must_ok (by kernel_rfl) (phi_cons hasPre_ok (by kernel_rfl) (phi_cons okind_ok (by kernel_rfl) phi_nil)))))
theorem phiPar_1 : phiPar 21 = some ([], cidS) := rfl
theorem phiPar_2 : phiPar 23 = some ([], cwhoS) := rfl
theorem phiPar_3 : phiPar 24 = some ([], cextrasS) := rfl
theorem phiPar_4 : phiPar 25 = some ([], mustS) := rfl
theorem phiPar_5 : phiPar 22 = some ([], hasPreS) := rfl
theorem phiPar_6 : phiPar 28 = some ([], kindS) := rfl
theorem z20U : (List.replicate 20 (Value.int .u8 0)) = z20L.map U := rfl
set_option maxHeartbeats 4000000 in
theorem cpar_ok : FnOk Tryd.prog 7 cparS := by
  refine fn_slim2 Tryd.func7 s_cpar phiPar_ok ?_
  intro xs hp r hs hp'
  unfold cparS at hs
  split at hs
  · rename_i bs
    obtain ⟨q1, p1⟩ := parR11_pre hs hp'
    generalize unB bs = s at *
    subst q1
    rw [Bs_len] at p1
    refine ⟨len_le (by kernel_rfl), ?_⟩
    have hM := mustG_len s false treW
    have hM0 : mustG s false [116, 114, 101, 101, 32] = pM s := rfl
    have hM1 : mustG s false treW = pM s := rfl
    have hB0 : ((pM s).2.2 || !goodQ (pM s).1) = pB0 s := rfl
    rw [hM1] at hM
    simp only [c_cpar, phiPar_1, cidS, unB_Bs, z20U, pOut_len, hM0, hB0, go_sem, Nat.reduceDiv, Nat.reduceMod, ↓reduceIte, Nat.reduceEqDiff, Nat.reduceBEq, Nat.reduceSub, Nat.reduceLT, Nat.reduceAdd, Nat.reduceLeDiff, reduceCtorEq, Int.reduceEq, Int.reduceNe, Int.reduceLT, Int.reduceLE, Int.reduceToNat]
    refine ⟨by omega, ?_⟩
    have hPP : parentsG (wgt (pM s).2.1 (pB0 s) + 1) (pM s).2.1 (pB0 s) [] = pP s := rfl
    refine loop2P [(4225, 30, 20)] [2, 4, 5] [0, 1, 2, 3] (fun q : Nat × List UInt8 × Bool × List (List UInt8) => ⟨[(2, .ref 0 0 0), (4, .ref 1 0 0), (5, .ref 2 0 0)],
      [.cells 35 com0, .cells 73 [(1, .str q.2.1), (1, .bool q.2.2.1)], .cells 35 (comPs (pOut (pM s).1) (.own 3 q.2.2.2.length) who0 who0 (.con (.slice none 0 0)) []), .row 30 20 q.2.2.2.length (q.2.2.2.map idAV)]⟩)
      (fun q => wgt q.2.1 q.2.2.1 < q.1 ∧ parentsG q.1 q.2.1 q.2.2.1 q.2.2.2 = pP s ∧ q.2.1.length ≤ 1000000 ∧ q.1 + q.2.2.2.length ≤ 2000000) (fun q => q.1) (wgt (pM s).2.1 (pB0 s) + 1, (pM s).2.1, pB0 s, []) rfl ⟨Nat.lt_succ_self _, hPP, by simp only; omega, by simp only [List.length_nil, wgt]; split <;> omega⟩ ⟨rfl, by rfl⟩ (fun q hq R hR => ?_)
    obtain ⟨f, s1, b, acc⟩ := q
    simp only at hq
    obtain ⟨h1, h2, h3, h4⟩ := hq
    simp only at hR ⊢
    obtain ⟨f, rfl⟩ : ∃ g, f = g + 1 := ⟨f - 1, by omega⟩
    have exitK : ¬ (b = false ∧ hasPrefix s1 parW = true) → pP s = (s1, b, acc) := by
      intro h; rw [← h2]; unfold parentsG; rw [if_neg h]
    have tail : ∀ y0 y1 y2 y3 y4 y5 y6 y7 y8 y9 y10 y11 y12 y13 y14 y15 : AV, pP s = (s1, b, acc) → awp2 phiPar 0 t_cpar_0 (retQ2 r_cpar 0 r) ⟨[[.top, .top, .ref 0 0 0, .top, .ref 1 0 0, .ref 2 0 0, .top, .top, .top, .top, .top, .top, .top, .top, .top, .top], [y0, y1, y2, y3, y4, y5, y6, y7, y8, y9, y10, y11, y12, y13, y14, y15]],
      [.cells 35 com0, .cells 73 [(1, .str s1), (1, .bool b)], .cells 35 (comPs (pOut (pM s).1) (.own 3 acc.length) who0 who0 (.con (.slice none 0 0)) []), .row 30 20 acc.length (acc.map idAV)]⟩ := by
      intro y0 y1 y2 y3 y4 y5 y6 y7 y8 y9 y10 y11 y12 y13 y14 y15 e
      have hA : mustG s1 b [97, 117, 116, 104, 111, 114, 32] = pA s := by unfold pA; rw [e]; rfl
      have hB1 : ((pA s).2.2 || !personB (pA s).1) = pB1 s := rfl
      have hC : mustG (pA s).2.1 (pB1 s) [99, 111, 109, 109, 105, 116, 116, 101, 114, 32] = pC s := rfl
      have hB2 : ((pC s).2.2 || !personB (pC s).1) = pB2 s := rfl
      have hE : extrasG (wgt (pC s).2.1 (pB2 s) + 1) (pC s).2.1 (pB2 s) [] = pE s := rfl
      have hL : mustG (pE s).1 (pE s).2.1 [] = pL s := rfl
      have l1 : (pA s).2.1.length ≤ s1.length := by rw [← hA]; exact (mustG_len _ _ _).2
      have l2 : (pC s).2.1.length ≤ (pA s).2.1.length := by rw [← hC]; exact (mustG_len _ _ _).2
      have l3 : (pE s).1.length ≤ (pC s).2.1.length := extrasG_len _ _ _ _
      have bad : parB11 s = false → r = ⟨.tup [.agg com0, .int .i64 4], [], r.pre⟩ := by
        intro h
        unfold parR11 at hs
        rw [if_neg (by rw [h]; simp)] at hs
        injection hs with hs; subst hs; rfl
      cases h5 : (pL s).2.2 with
      | true =>
        rw [bad (by unfold parB11; rw [h5]; rfl)]
        simp only [t_cpar_0, r_cpar, comPs, com0, who0, phiPar_2, phiPar_3, phiPar_4, cwhoS, cextrasS, mustS, whoP, hA, hB1, hC, hB2, hE, hL, z20U, h5, go_sem, Nat.reduceDiv, Nat.reduceMod, ↓reduceIte, Nat.reduceEqDiff, Nat.reduceBEq, Nat.reduceSub, Nat.reduceLT, Nat.reduceAdd, Nat.reduceLeDiff, reduceCtorEq, Int.reduceEq, Int.reduceNe, Int.reduceLT, Int.reduceLE, Int.reduceToNat]
        exact ⟨by omega, by omega, by omega, by omega⟩
      | false =>
        by_cases h6 : (pL s).1 = []
        · have d6 : decide ((pL s).1 = []) = true := decide_eq_true h6
          have ok : parB11 s = true := by unfold parB11; rw [h5, d6]; rfl
          unfold parR11 at hs
          rw [if_pos ok] at hs
          injection hs with hs; subst hs
          unfold parC11
          simp only [e]
          simp only [t_cpar_0, r_cpar, comPs, com0, who0, phiPar_2, phiPar_3, phiPar_4, cwhoS, cextrasS, mustS, whoP, hA, hB1, hC, hB2, hE, hL, z20U, h5, d6, go_sem, Nat.reduceDiv, Nat.reduceMod, ↓reduceIte, Nat.reduceEqDiff, Nat.reduceBEq, Nat.reduceSub, Nat.reduceLT, Nat.reduceAdd, Nat.reduceLeDiff, reduceCtorEq, Int.reduceEq, Int.reduceNe, Int.reduceLT, Int.reduceLE, Int.reduceToNat]
          exact ⟨by omega, by omega, by omega, by omega⟩
        · have d6 : decide ((pL s).1 = []) = false := decide_eq_false h6
          rw [bad (by unfold parB11; rw [d6]; simp)]
          simp only [t_cpar_0, r_cpar, comPs, com0, who0, phiPar_2, phiPar_3, phiPar_4, cwhoS, cextrasS, mustS, whoP, hA, hB1, hC, hB2, hE, hL, z20U, h5, d6, go_sem, Nat.reduceDiv, Nat.reduceMod, ↓reduceIte, Nat.reduceEqDiff, Nat.reduceBEq, Nat.reduceSub, Nat.reduceLT, Nat.reduceAdd, Nat.reduceLeDiff, reduceCtorEq, Int.reduceEq, Int.reduceNe, Int.reduceLT, Int.reduceLE, Int.reduceToNat]
          exact ⟨by omega, by omega, by omega, by omega⟩
    cases hb : b with
    | true =>
      subst hb
      simp only [b_cpar_0, comPs, com0, who0, phiPar_5, hasPreS, go_sem, Nat.reduceDiv, Nat.reduceMod, ↓reduceIte, Nat.reduceEqDiff, Nat.reduceBEq, Nat.reduceSub, Nat.reduceLT, Nat.reduceAdd, Nat.reduceLeDiff, reduceCtorEq, Int.reduceEq, Int.reduceNe, Int.reduceLT, Int.reduceLE, Int.reduceToNat]
      exact tail _ _ _ _ _ _ _ _ _ _ _ _ _ _ _ _ (exitK (by simp))
    | false =>
      subst hb
      cases hn : hasPrefix s1 parW with
      | false =>
        have hn' : hasPrefix s1 [112, 97, 114, 101, 110, 116, 32] = false := hn
        simp only [b_cpar_0, comPs, com0, who0, phiPar_5, hasPreS, hn', go_sem, Nat.reduceDiv, Nat.reduceMod, ↓reduceIte, Nat.reduceEqDiff, Nat.reduceBEq, Nat.reduceSub, Nat.reduceLT, Nat.reduceAdd, Nat.reduceLeDiff, reduceCtorEq, Int.reduceEq, Int.reduceNe, Int.reduceLT, Int.reduceLE, Int.reduceToNat]
        exact tail _ _ _ _ _ _ _ _ _ _ _ _ _ _ _ _ (exitK (by rw [hn]; simp))
      | true =>
        have hn' : hasPrefix s1 [112, 97, 114, 101, 110, 116, 32] = true := hn
        simp only [b_cpar_0, comPs, com0, who0, phiPar_1, phiPar_5, cidS, hasPreS, z20U, pOut_len, hn', go_sem, Nat.reduceDiv, Nat.reduceMod, ↓reduceIte, Nat.reduceEqDiff, Nat.reduceBEq, Nat.reduceSub, Nat.reduceLT, Nat.reduceAdd, Nat.reduceLeDiff, reduceCtorEq, Int.reduceEq, Int.reduceNe, Int.reduceLT, Int.reduceLE, Int.reduceToNat]
        have hm : mustG s1 false [112, 97, 114, 101, 110, 116, 32] = mustG s1 false parW := rfl
        have hlen : (acc.map idAV ++ [AV.blob ((pOut (mustG s1 false [112, 97, 114, 101, 110, 116, 32]).1).map U)]).length = acc.length + 1 := by simp
        have hdec := parents_dec s1
        have hw0 : wgt s1 false = s1.length + 1 := rfl
        have hml := mustG_len s1 false parW
        have e2 : parentsG f (mustG s1 false parW).2.1 ((mustG s1 false parW).2.2 || !goodQ (mustG s1 false parW).1) (acc ++ [pOut (mustG s1 false parW).1]) = pP s := by rw [← h2]; conv => rhs; unfold parentsG; rw [if_pos ⟨rfl, hn⟩]
        refine ⟨by omega, ⟨by rw [hlen]; (first | omega | (simp only [lenOk, bytesOk, inI, IntKind.bits, List.length_append, Bs_len, List.length_cons, List.length_nil, List.length_map, List.length_take, List.length_drop, List.length_replicate]; omega)), by rw [hlen]; (first | omega | (simp only [lenOk, bytesOk, inI, IntKind.bits, List.length_append, Bs_len, List.length_cons, List.length_nil, List.length_map, List.length_take, List.length_drop, List.length_replicate]; omega))⟩, hR _ (f, (mustG s1 false parW).2.1, ((mustG s1 false parW).2.2 || !goodQ (mustG s1 false parW).1), acc ++ [pOut (mustG s1 false parW).1]) ⟨by simp only; omega, e2, by simp only; omega, by simp only [List.length_append, List.length_cons, List.length_nil]; omega⟩ (by simp only; omega) ?_⟩
        simp only [List.length_append, List.length_cons, List.length_nil, List.map_append, List.map_cons, List.map_nil]
        rfl
  · cases hs
end Go.Proofs.YtlkaaoekbmegkaaDoor
namespace Go.Proofs.YtlkaaoekbmegkaaDoor
set_option linter.all false
open Go.RowKit
open Go.Lib (index hasPrefix cut indexAny itoa)
def objW : List UInt8 := [111, 98, 106, 101, 99, 116, 32]
def typW : List UInt8 := [116, 121, 112, 101, 32]
def tagW : List UInt8 := [116, 97, 103, 32]
def tgrW : List UInt8 := [116, 97, 103, 103, 101, 114, 32]
def tM (s : List UInt8) := mustG s false objW
def tB0 (s : List UInt8) : Bool := (tM s).2.2 || !goodQ (tM s).1
def tK (s : List UInt8) := mustG (tM s).2.1 (tB0 s) typW
def tN (s : List UInt8) := mustG (tK s).2.1 (tK s).2.2 tagW
def tW (s : List UInt8) := mustG (tN s).2.1 (tN s).2.2 tgrW
noncomputable def tB1 (s : List UInt8) : Bool := (tW s).2.2 || !personB (tW s).1
noncomputable def tE (s : List UInt8) := mustG (tW s).2.1 (tB1 s) []
noncomputable def parT11 (s : List UInt8) : TagL := ⟨pOut (tM s).1, kindN (tK s).1, (tN s).1, personV (tW s).1, (tE s).2.1⟩
noncomputable def parBT11 (s : List UInt8) : Bool := !(tE s).2.2 && !decide (kindN (tK s).1 = 0) && !decide ((tN s).1 = []) && decide ((tE s).1 = [])
def tagPs (o : List UInt8) (k : Int) (n : List UInt8) (w : WhoL) (m : List UInt8) : List (Nat × AV) :=
  [(20, .blob (o.map U)), (1, .int .i64 k), (1, .str n), (1, .str w.name), (1, .str w.mail), (1, .int .i64 w.time), (1, .str w.zone), (1, .str m)]
def tag0 : List (Nat × AV) := tagPs z20L 0 [] who0 []
def parRT11 (t : TagL) (ok : Bool) (pr : Prop) : Option Ret := if ok = true then
    some ⟨.tup [.agg (tagPs t.object t.kind t.name t.tagger t.message), .int .i64 0], [], pr⟩
  else some ⟨.tup [.agg tag0, .int .i64 4], [], pr⟩
noncomputable def cpartS : Spec := fun xs hp => match xs, hp with
  | [.sl 1 bs], [] => parRT11 (parT11 (unB bs)) (parBT11 (unB bs)) (bs = Bs (unB bs) ∧ bs.length ≤ 1000000)
  | _, _ => none
theorem parRT11_pre {c : TagL} {ok : Bool} {pr : Prop} {r : Ret} (h : parRT11 c ok pr = some r) (hr : r.pre) : pr := by
  unfold parRT11 at h
  split at h <;> (injection h with h; subst h; exact hr)
set_option maxHeartbeats 4000000 in
theorem cpart_ok : FnOk Tryd.prog 11 cpartS := by
  refine fn_slim2 Tryd.func11 s_cpart phiPar_ok ?_
  intro xs hp r hs hp'
  unfold cpartS at hs
  split at hs
  · rename_i bs
    obtain ⟨q1, p1⟩ := parRT11_pre hs hp'
    generalize unB bs = s at *
    subst q1
    rw [Bs_len] at p1
    refine ⟨len_le (by kernel_rfl), ?_⟩
    have hM : mustG s false [111, 98, 106, 101, 99, 116, 32] = tM s := rfl
    have hB0 : ((tM s).2.2 || !goodQ (tM s).1) = tB0 s := rfl
    have hK : mustG (tM s).2.1 (tB0 s) [116, 121, 112, 101, 32] = tK s := rfl
    have hN : mustG (tK s).2.1 (tK s).2.2 [116, 97, 103, 32] = tN s := rfl
    have hW : mustG (tN s).2.1 (tN s).2.2 [116, 97, 103, 103, 101, 114, 32] = tW s := rfl
    have hB1 : ((tW s).2.2 || !personB (tW s).1) = tB1 s := rfl
    have hE : mustG (tW s).2.1 (tB1 s) [] = tE s := rfl
    have l1 : (tM s).2.1.length ≤ s.length := (mustG_len _ _ _).2
    have l2 : (tK s).2.1.length ≤ (tM s).2.1.length := (mustG_len _ _ _).2
    have l3 : (tN s).2.1.length ≤ (tK s).2.1.length := (mustG_len _ _ _).2
    have l4 : (tW s).2.1.length ≤ (tN s).2.1.length := (mustG_len _ _ _).2
    have l5 : (tE s).2.1.length ≤ (tW s).2.1.length := (mustG_len _ _ _).2
    have bad : parBT11 s = false → r = ⟨.tup [.agg tag0, .int .i64 4], [], r.pre⟩ := by
      intro h
      unfold parRT11 at hs
      rw [if_neg (by rw [h]; simp)] at hs
      injection hs with hs; subst hs; rfl
    have fin : s.length ≤ 1000000000 ∧ (tM s).2.1.length ≤ 1000000000 ∧ (tK s).2.1.length ≤ 1000000000 ∧ (tN s).2.1.length ≤ 1000000000 ∧ (tW s).2.1.length ≤ 1000000000 := by omega
    cases h1 : (tE s).2.2 with
    | true =>
      rw [bad (by unfold parBT11; rw [h1]; rfl)]
      simp only [c_cpart, r_cpart, tagPs, tag0, who0, phiPar_1, phiPar_2, phiPar_4, phiPar_6, cidS, cwhoS, mustS, kindS, whoP, unB_Bs, z20U, pOut_len, hM, hB0, hK, hN, hW, hB1, hE, h1, go_sem, Nat.reduceDiv, Nat.reduceMod, ↓reduceIte, Nat.reduceEqDiff, Nat.reduceBEq, Nat.reduceSub, Nat.reduceLT, Nat.reduceAdd, Nat.reduceLeDiff, reduceCtorEq, Int.reduceEq, Int.reduceNe, Int.reduceLT, Int.reduceLE, Int.reduceToNat]
      exact fin
    | false =>
      cases h2 : decide (kindN (tK s).1 = 0) with
      | true =>
        rw [bad (by unfold parBT11; rw [h1, h2]; rfl)]
        simp only [c_cpart, r_cpart, tagPs, tag0, who0, phiPar_1, phiPar_2, phiPar_4, phiPar_6, cidS, cwhoS, mustS, kindS, whoP, unB_Bs, z20U, pOut_len, hM, hB0, hK, hN, hW, hB1, hE, h1, h2, go_sem, Nat.reduceDiv, Nat.reduceMod, ↓reduceIte, Nat.reduceEqDiff, Nat.reduceBEq, Nat.reduceSub, Nat.reduceLT, Nat.reduceAdd, Nat.reduceLeDiff, reduceCtorEq, Int.reduceEq, Int.reduceNe, Int.reduceLT, Int.reduceLE, Int.reduceToNat]
        exact fin
      | false =>
        cases h3 : decide ((tN s).1 = []) with
        | true =>
          rw [bad (by unfold parBT11; rw [h1, h2, h3]; rfl)]
          simp only [c_cpart, r_cpart, tagPs, tag0, who0, phiPar_1, phiPar_2, phiPar_4, phiPar_6, cidS, cwhoS, mustS, kindS, whoP, unB_Bs, z20U, pOut_len, hM, hB0, hK, hN, hW, hB1, hE, h1, h2, h3, go_sem, Nat.reduceDiv, Nat.reduceMod, ↓reduceIte, Nat.reduceEqDiff, Nat.reduceBEq, Nat.reduceSub, Nat.reduceLT, Nat.reduceAdd, Nat.reduceLeDiff, reduceCtorEq, Int.reduceEq, Int.reduceNe, Int.reduceLT, Int.reduceLE, Int.reduceToNat]
          exact fin
        | false =>
          cases h4 : decide ((tE s).1 = []) with
          | false =>
            rw [bad (by unfold parBT11; rw [h4]; simp)]
            simp only [c_cpart, r_cpart, tagPs, tag0, who0, phiPar_1, phiPar_2, phiPar_4, phiPar_6, cidS, cwhoS, mustS, kindS, whoP, unB_Bs, z20U, pOut_len, hM, hB0, hK, hN, hW, hB1, hE, h1, h2, h3, h4, go_sem, Nat.reduceDiv, Nat.reduceMod, ↓reduceIte, Nat.reduceEqDiff, Nat.reduceBEq, Nat.reduceSub, Nat.reduceLT, Nat.reduceAdd, Nat.reduceLeDiff, reduceCtorEq, Int.reduceEq, Int.reduceNe, Int.reduceLT, Int.reduceLE, Int.reduceToNat]
            exact fin
          | true =>
            have ok : parBT11 s = true := by unfold parBT11; rw [h1, h2, h3, h4]; rfl
            unfold parRT11 at hs
            rw [if_pos ok] at hs
            injection hs with hs; subst hs
            unfold parT11
            simp only [c_cpart, r_cpart, tagPs, tag0, who0, phiPar_1, phiPar_2, phiPar_4, phiPar_6, cidS, cwhoS, mustS, kindS, whoP, unB_Bs, z20U, pOut_len, hM, hB0, hK, hN, hW, hB1, hE, h1, h2, h3, h4, go_sem, Nat.reduceDiv, Nat.reduceMod, ↓reduceIte, Nat.reduceEqDiff, Nat.reduceBEq, Nat.reduceSub, Nat.reduceLT, Nat.reduceAdd, Nat.reduceLeDiff, reduceCtorEq, Int.reduceEq, Int.reduceNe, Int.reduceLT, Int.reduceLE, Int.reduceToNat]
            exact fin
  · cases hs
end Go.Proofs.YtlkaaoekbmegkaaDoor
namespace Go.Proofs.YtlkaaoekbmegkaaDoor
set_option linter.all false
open Go.RowKit
theorem hasL_iff (p s : List UInt8) : hasL p s = true ↔ ∃ x ∈ s, x ∈ p := by unfold hasL; simp
theorem hasL_app (p a b : List UInt8) : hasL p (a ++ b) = (hasL p a || hasL p b) := by unfold hasL; rw [List.any_append]
end Go.Proofs.YtlkaaoekbmegkaaDoor
namespace Go.Proofs.YtlkaaoekbmegkaaDoor
set_option linter.all false
open Go.RowKit
open Go.Lib (index hasPrefix cut indexAny itoa decDigits)
theorem dec_dig (n : Nat) : ∀ x ∈ decDigits n, 48 ≤ x.toNat ∧ x.toNat ≤ 57 := by
  induction n using Nat.strongRecOn with
  | _ n ih =>
    intro x hx
    by_cases h : n < 10
    · rw [decD_small h, List.mem_singleton] at hx
      subst hx; rw [dc_toNat h]; omega
    · rw [decD_big (by omega), List.mem_append, List.mem_singleton] at hx
      rcases hx with hx | rfl
      · exact ih (n / 10) (by omega) x hx
      · rw [dc_toNat (by omega)]; omega
theorem dec_no (n : Nat) (c : UInt8) (h : c.toNat < 48) : c ∉ decDigits n := fun hm => by have := (dec_dig n c hm).1; omega
theorem itoa_dec {t : Int} (h : 0 ≤ t) : itoa t = decDigits t.toNat := by
  obtain ⟨n, rfl⟩ := Int.eq_ofNat_of_zero_le h
  rw [itoa_nat]; rfl
theorem hasL_no {p s : List UInt8} (h : hasL p s = false) {c : UInt8} (hc : c ∈ p) : c ∉ s := fun hm => by
  have : hasL p s = true := (hasL_iff p s).2 ⟨c, hm, hc⟩
  rw [h] at this; cases this
theorem rightW_parts {w : WhoL} (h : rightW w = true) : hasL [60, 62, 10] w.name = false ∧ hasL [60, 62, 10] w.mail = false ∧ zonB w.zone = true := by
  unfold rightW at h
  rw [hasL_app] at h
  cases h1 : hasL [60, 62, 10] w.name <;> cases h2 : hasL [60, 62, 10] w.mail <;> simp [h1, h2] at h
  exact ⟨rfl, rfl, h.2⟩
theorem decB_itoa {t : Int} (h0 : 0 ≤ t) (h1 : t < 4611686018427387904) : decB (itoa t) = true ∧ (decN (itoa t) : Int) = t := by
  rw [itoa_dec h0]
  obtain ⟨a, b⟩ := decBN_some (decV_dec t.toNat (by omega))
  exact ⟨a, by rw [b]; omega⟩
theorem itoa_decN {s : List UInt8} (h : decB s = true) : itoa (decN s : Int) = s := by
  rw [itoa_nat]; exact (decV_some (decB_t h)).1.symm
theorem textW_shape (w : WhoL) : textW w = w.name ++ 32 :: 60 :: (w.mail ++ 62 :: 32 :: (itoa w.time ++ 32 :: w.zone)) := by simp [textW]
theorem person_cuts {w : WhoL} (h : rightW w = true) : cut (textW w) [32, 60] = (w.name, w.mail ++ 62 :: 32 :: (itoa w.time ++ 32 :: w.zone), true) ∧
    cut (w.mail ++ 62 :: 32 :: (itoa w.time ++ 32 :: w.zone)) [62, 32] = (w.mail, itoa w.time ++ 32 :: w.zone, true) ∧ cut (itoa w.time ++ 32 :: w.zone) [32] = (itoa w.time, w.zone, true) := by
  obtain ⟨h1, h2, h3⟩ := rightW_parts h
  obtain ⟨h4, h5⟩ := rightW_time h
  refine ⟨?_, ?_, ?_⟩
  · rw [textW_shape]; exact cut_2y (hasL_no h1 (by decide)) (by decide)
  · exact cut_2x (hasL_no h2 (by decide))
  · refine cut_1 ?_
    rw [itoa_dec h4]; exact dec_no _ _ (by decide)
theorem person_text {w : WhoL} (h : rightW w = true) : personB (textW w) = true ∧ personW (textW w) = w := by
  obtain ⟨h4, h5⟩ := rightW_time h
  obtain ⟨e1, e2, e3⟩ := person_cuts h
  obtain ⟨e4, e5⟩ := decB_itoa h4 h5
  have hw : personW (textW w) = w := by
    unfold personW
    rw [e1]; simp only; rw [e2]; simp only; rw [e3]; simp only
    rw [show timeN (itoa w.time) = (decN (itoa w.time) : Int) from if_pos e4, e5]
  refine ⟨?_, hw⟩
  unfold personB
  rw [hw, h, e1]; simp only; rw [e2]; simp only; rw [e3]; simp only; rw [e4]; rfl
theorem text_person {s : List UInt8} (h : personB s = true) : rightW (personW s) = true ∧ textW (personW s) = s := by
  unfold personB at h
  simp only [Bool.and_eq_true] at h
  obtain ⟨⟨⟨⟨h1, h2⟩, h3⟩, h4⟩, h5⟩ := h
  refine ⟨h5, ?_⟩
  rw [textW_shape]
  have e1 := cut_t h1
  have e2 := cut_t h2
  have e3 := cut_t h3
  have e4 := itoa_decN h4
  unfold personW
  simp only
  rw [show timeN (cut (cut (cut s [32, 60]).2.1 [62, 32]).2.1 [32]).1 = (decN (cut (cut (cut s [32, 60]).2.1 [62, 32]).2.1 [32]).1 : Int) from if_pos h4, e4]
  simp only [List.cons_append, List.nil_append] at e1 e2 e3
  rw [← e3, ← e2, ← e1]
end Go.Proofs.YtlkaaoekbmegkaaDoor
