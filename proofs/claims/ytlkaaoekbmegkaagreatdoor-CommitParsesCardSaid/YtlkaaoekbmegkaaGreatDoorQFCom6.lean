import Derived.Test.YtlkaaoekbmegkaaGreatDoorQRParse2
import Derived.Test.YtlkaaoekbmegkaaGreatDoorQHex
import Derived.Test.YtlkaaoekbmegkaaGreatDoorQRunes
namespace Go.Proofs.YtlkaaoekbmegkaaGreatDoor
set_option linter.all false
open Go.RowKit
open Go.Lib (index hasPrefix cut indexAny itoa)
def contG : Nat → List UInt8 → List UInt8 → List UInt8 × List UInt8
  | 0, s, v => (s, v)
  | f + 1, s, v => match lineG s [32] with
    | some (m, r) => contG f r (v ++ ([10] ++ m))
    | none => (s, v)
theorem contG_len : ∀ (f : Nat) (s v : List UInt8), (contG f s v).1.length ≤ s.length ∧ (contG f s v).2.length ≤ v.length + f * (s.length + 1) := by
  intro f
  induction f with
  | zero => intro s v; simp [contG]
  | succ f ih =>
    intro s v
    unfold contG
    cases h : lineG s [32] with
    | none => simp only; exact ⟨Nat.le_refl _, by omega⟩
    | some p =>
      obtain ⟨m, r⟩ := p
      have := lineG_len h
      obtain ⟨i1, i2⟩ := ih r (v ++ ([10] ++ m))
      simp only [List.length_append, List.length_cons, List.length_nil] at i1 i2 ⊢
      refine ⟨by omega, ?_⟩
      have hm : f * (r.length + 1) ≤ f * (s.length + 1) := Nat.mul_le_mul_left _ (by omega)
      rw [Nat.add_mul]; omega
theorem contG_s : ∀ (f : Nat) (s v : List UInt8), (contG f s v).1.length + (contG f s v).2.length ≤ s.length + v.length := by
  intro f
  induction f with
  | zero => intro s v; simp [contG]
  | succ f ih =>
    intro s v
    unfold contG
    cases h : lineG s [32] with
    | none => simp
    | some p =>
      obtain ⟨m, r⟩ := p
      have hc : m.length + 1 + 1 + r.length ≤ s.length := by
        unfold lineG at h
        split at h
        · rename_i hc
          injection h with h; injection h with h1 h2; subst h1 h2
          have := congrArg List.length (cut_t hc.1)
          simp only [List.length_append, List.length_cons, List.length_nil] at this
          have h3 : [(32 : UInt8)].isPrefixOf (cut s [10]).1 = true := hc.2
          rw [List.isPrefixOf_iff_prefix] at h3
          have h4 := h3.length_le
          simp only [List.length_drop, List.length_cons, List.length_nil] at h4 ⊢
          omega
        · cases h
      have := ih r (v ++ ([10] ++ m))
      simp only [List.length_append, List.length_cons, List.length_nil] at this ⊢
      omega
def extra1 (s : List UInt8) : List UInt8 × List UInt8 × Bool × ExL :=
  let m := mustG s false []
  let c := cut m.1 [32]
  let z := contG (m.2.1.length + 1) m.2.1 c.2.1
  (z.1, z.2, m.2.2 || !c.2.2 || !extraB c.1, (c.1, z.2))
def extrasG : Nat → List UInt8 → Bool → List ExL → List UInt8 × Bool × List ExL
  | 0, s, b, acc => (s, b, acc)
  | f + 1, s, b, acc => if b = false ∧ hasPrefix s [10] = false then extrasG f (extra1 s).1 (extra1 s).2.2.1 (acc ++ [(extra1 s).2.2.2]) else (s, b, acc)
theorem mustG_dec (s w : List UInt8) (b : Bool) : (mustG s b w).2.2 = true ∨ (mustG s b w).2.1.length < s.length := by
  unfold mustG
  cases h : lineG s w with
  | none => exact .inl rfl
  | some p => obtain ⟨x, r⟩ := p; exact .inr (lineG_len h).2
def wgt (s : List UInt8) (b : Bool) : Nat := s.length + (if b = true then 0 else 1)
theorem extra1_dec (s : List UInt8) : wgt (extra1 s).1 (extra1 s).2.2.1 < wgt s false := by
  unfold wgt extra1
  have h1 := (contG_len ((mustG s false []).2.1.length + 1) (mustG s false []).2.1 (cut (mustG s false []).1 [32]).2.1).1
  have h2 := (mustG_len s false []).2
  rcases mustG_dec s [] false with h | h
  · simp only [h, Bool.true_or, if_true]
    simp; omega
  · have hx : ∀ b : Bool, (if b = true then 0 else 1 : Nat) ≤ 1 := by intro b; split <;> omega
    have h3 := hx ((mustG s false []).2.2 || !(cut (mustG s false []).1 [32]).2.2 || !extraB (cut (mustG s false []).1 [32]).1)
    show _ < s.length + 1
    simp only
    omega
def cextrasS : Spec := fun xs hp => match xs, hp with
  | [.ref 0 0 0], [.cells T [(1, .str s), (1, .bool b)]] =>
    some ⟨.own 1 (extrasG (wgt s b + 1) s b []).2.2.length, [.cells T [(1, .str (extrasG (wgt s b + 1) s b []).1), (1, .bool (extrasG (wgt s b + 1) s b []).2.1)], .row 75 2 (extrasG (wgt s b + 1) s b []).2.2.length ((extrasG (wgt s b + 1) s b []).2.2.map exV)], s.length ≤ 1000000⟩
  | _, _ => none
def phiExt : Phi := phiL [(53, [], mustS), (74, [], lineS), (50, [], hasPreS), (44, [], cutS), (32, [], cextraS)]
theorem phiExt_ok : PhiOk Tryz.prog phiExt := phi_cons must_ok (by kernel_rfl) (phi_cons line_ok (by kernel_rfl) (phi_cons hasPre_ok (by kernel_rfl) (phi_cons cut_ok (by kernel_rfl) (phi_cons cextra_ok (by kernel_rfl) phi_nil))))
theorem phiExt_1 : phiExt 53 = some ([], mustS) := rfl
theorem phiExt_2 : phiExt 74 = some ([], lineS) := rfl
theorem phiExt_3 : phiExt 50 = some ([], hasPreS) := rfl
theorem phiExt_4 : phiExt 44 = some ([], cutS) := rfl
theorem phiExt_5 : phiExt 32 = some ([], cextraS) := rfl
set_option maxHeartbeats 4000000 in
theorem cextras_ok : FnOk Tryz.prog 52 cextrasS := by
  refine fn_slim2 Tryz.func52 s_cextras phiExt_ok ?_
  intro xs hp r hs hp'
  unfold cextrasS at hs
  split at hs
  · injection hs with hs; subst hs
    rename_i T s0 b0
    have p1 : s0.length ≤ 1000000 := hp'
    refine ⟨len_le (by kernel_rfl), ?_⟩
    generalize hE : extrasG (wgt s0 b0 + 1) s0 b0 [] = E at *
    simp only [c_cextras, go_sem, Nat.reduceDiv, Nat.reduceMod, ↓reduceIte, Nat.reduceEqDiff, Nat.reduceBEq, Nat.reduceSub, Nat.reduceLT, Nat.reduceAdd, Nat.reduceLeDiff, reduceCtorEq, Int.reduceEq, Int.reduceNe, Int.reduceLT, Int.reduceLE, Int.reduceToNat]
    refine loop2P [(3, 75, 2)] [0, 3] [0, 1] (fun q : Nat × List UInt8 × Bool × List ExL => ⟨[(0, .ref 0 0 0), (3, .own 1 q.2.2.2.length)], [.cells T [(1, .str q.2.1), (1, .bool q.2.2.1)], .row 75 2 q.2.2.2.length (q.2.2.2.map exV)]⟩)
      (fun q => wgt q.2.1 q.2.2.1 < q.1 ∧ extrasG q.1 q.2.1 q.2.2.1 q.2.2.2 = E ∧ q.2.1.length ≤ 1000000 ∧ q.1 + q.2.2.2.length ≤ 2000000) (fun q => q.1) (wgt s0 b0 + 1, s0, b0, []) rfl ⟨Nat.lt_succ_self _, hE, p1, by simp only [List.length_nil, wgt]; split <;> omega⟩ ⟨rfl, by rfl⟩ (fun q hq R hR => ?_)
    obtain ⟨f, s, b, acc⟩ := q
    simp only at hq
    obtain ⟨h1, h2, h3, h4⟩ := hq
    simp only at hR ⊢
    obtain ⟨f, rfl⟩ : ∃ g, f = g + 1 := ⟨f - 1, by omega⟩
    cases hb : b with
    | true =>
      subst hb
      have e : E = (s, true, acc) := by rw [← h2]; unfold extrasG; rw [if_neg (by simp)]
      rw [e]
      simp only [b_cextras_1, t_cextras_1, r_cextras, phiExt_3, hasPreS, go_sem, Nat.reduceDiv, Nat.reduceMod, ↓reduceIte, Nat.reduceEqDiff, Nat.reduceBEq, Nat.reduceSub, Nat.reduceLT, Nat.reduceAdd, Nat.reduceLeDiff, reduceCtorEq, Int.reduceEq, Int.reduceNe, Int.reduceLT, Int.reduceLE, Int.reduceToNat]
    | false =>
      subst hb
      cases hn : hasPrefix s [10] with
      | true =>
        have e : E = (s, false, acc) := by rw [← h2]; unfold extrasG; rw [if_neg (by rw [hn]; simp)]
        rw [e]
        simp only [b_cextras_1, t_cextras_1, r_cextras, phiExt_3, hasPreS, hn, go_sem, Nat.reduceDiv, Nat.reduceMod, ↓reduceIte, Nat.reduceEqDiff, Nat.reduceBEq, Nat.reduceSub, Nat.reduceLT, Nat.reduceAdd, Nat.reduceLeDiff, reduceCtorEq, Int.reduceEq, Int.reduceNe, Int.reduceLT, Int.reduceLE, Int.reduceToNat]
      | false =>
        have e : extrasG f (extra1 s).1 (extra1 s).2.2.1 (acc ++ [(extra1 s).2.2.2]) = E := by rw [← h2]; conv => rhs; unfold extrasG; rw [if_pos ⟨rfl, hn⟩]
        have hdec := extra1_dec s
        have hw0 : wgt s false = s.length + 1 := rfl
        have hm := mustG_len s false []
        have hc1 := cutl1 (mustG s false []).1 [32]
        have hc2 := cutl2 (mustG s false []).1 [32]
        simp only [b_cextras_1, phiExt_1, phiExt_3, phiExt_4, mustS, hasPreS, cutS, hn, go_sem, Nat.reduceDiv, Nat.reduceMod, ↓reduceIte, Nat.reduceEqDiff, Nat.reduceBEq, Nat.reduceSub, Nat.reduceLT, Nat.reduceAdd, Nat.reduceLeDiff, reduceCtorEq, Int.reduceEq, Int.reduceNe, Int.reduceLT, Int.reduceLE, Int.reduceToNat]
        have hd0 : (mustG s false []).1.length + (mustG s false []).2.1.length ≤ s.length := by
          unfold mustG
          cases h : lineG s [] with
          | none => simp
          | some p =>
            obtain ⟨x, rr⟩ := p
            unfold lineG at h
            split at h
            · rename_i hcc
              injection h with h; injection h with h5 h6; subst h5 h6
              have := congrArg List.length (cut_t hcc.1)
              simp only [List.length_append, List.length_cons, List.length_nil] at this
              simp only [List.length_drop]; omega
            · cases h
        refine ⟨by omega, by omega, ?_⟩
        unfold extra1 at e hdec
        simp only at e hdec
        generalize mustG s false [] = M at *
        generalize cut M.1 [32] = C at *
        generalize hZ : contG (M.2.1.length + 1) M.2.1 C.2.1 = Z at *
        refine loop2P [] [0, 3, 7, 8] [0, 1, 2] (fun q : Nat × List UInt8 × List UInt8 => ⟨[(0, .ref 0 0 0), (3, .own 1 acc.length), (7, .bool C.2.2), (8, .ref 2 0 0)], [.cells T [(1, .str q.2.1), (1, .bool M.2.2)], .row 75 2 acc.length (acc.map exV), .cells 75 [(1, .str C.1), (1, .str q.2.2)]]⟩)
          (fun q => q.2.1.length < q.1 ∧ contG q.1 q.2.1 q.2.2 = Z ∧ q.2.1.length + q.2.2.length ≤ 2000000) (fun q => q.1) (M.2.1.length + 1, M.2.1, C.2.1) rfl ⟨Nat.lt_succ_self _, hZ, by simp only; omega⟩ ⟨rfl, by rfl⟩ (fun q hq R2 hR2 => ?_)
        obtain ⟨g, s', v⟩ := q
        simp only at hq
        obtain ⟨i1, i2, i3⟩ := hq
        simp only at hR2 ⊢
        obtain ⟨g, rfl⟩ : ∃ k, g = k + 1 := ⟨g - 1, by omega⟩
        unfold contG at i2
        cases hl : lineG s' [32] with
        | some p =>
          obtain ⟨m, rr⟩ := p
          rw [hl] at i2
          simp only at i2
          have hll := lineG_len hl
          have hcc : m.length + 1 + 1 + rr.length ≤ s'.length := by
            have hx := contG_s 1 s' []
            unfold contG at hx
            rw [hl] at hx
            have hy := hl
            unfold lineG at hy
            split at hy
            · rename_i hcc
              injection hy with hy; injection hy with h5 h6; subst h5 h6
              have := congrArg List.length (cut_t hcc.1)
              simp only [List.length_append, List.length_cons, List.length_nil] at this
              have h3 : [(32 : UInt8)].isPrefixOf (cut s' [10]).1 = true := hcc.2
              rw [List.isPrefixOf_iff_prefix] at h3
              have h4 := h3.length_le
              simp only [List.length_drop, List.length_cons, List.length_nil] at h4 ⊢
              omega
            · cases hy
          simp only [b_cextras_0, phiExt_2, lineS, hl, lineR, go_sem, Nat.reduceDiv, Nat.reduceMod, ↓reduceIte, Nat.reduceEqDiff, Nat.reduceBEq, Nat.reduceSub, Nat.reduceLT, Nat.reduceAdd, Nat.reduceLeDiff, reduceCtorEq, Int.reduceEq, Int.reduceNe, Int.reduceLT, Int.reduceLE, Int.reduceToNat]
          refine ⟨by omega, by (first | omega | (simp only [lenOk, bytesOk, inI, IntKind.bits, List.length_append, Bs_len, List.length_cons, List.length_nil, List.length_map, List.length_take, List.length_drop, List.length_replicate]; omega)), by (first | omega | (simp only [lenOk, bytesOk, inI, IntKind.bits, List.length_append, Bs_len, List.length_cons, List.length_nil, List.length_map, List.length_take, List.length_drop, List.length_replicate]; omega)), hR2 _ (g, rr, v ++ ([10] ++ m)) ⟨by simp only; omega, i2, by simp only [List.length_append, List.length_cons, List.length_nil]; omega⟩ (by simp only; omega) rfl⟩
        | none =>
          rw [hl] at i2
          simp only at i2
          subst i2
          simp only at e hdec
          have hlen : (acc.map exV ++ [AV.agg [(1, AV.str C.1), (1, AV.str v)]]).length = acc.length + 1 := by simp
          simp only [b_cextras_0, phiExt_2, lineS, hl, lineR, go_sem, Nat.reduceDiv, Nat.reduceMod, ↓reduceIte, Nat.reduceEqDiff, Nat.reduceBEq, Nat.reduceSub, Nat.reduceLT, Nat.reduceAdd, Nat.reduceLeDiff, reduceCtorEq, Int.reduceEq, Int.reduceNe, Int.reduceLT, Int.reduceLE, Int.reduceToNat]
          refine ⟨by omega, ?_⟩
          have fin : ∀ (bb : Bool) s'', bb = (M.2.2 || !C.2.2 || !extraB C.1) → kp [0, 3] [0, 1].length (toS s'') = some ⟨[(0, .ref 0 0 0), (3, .own 1 (acc.length + 1))], [.cells T [(1, .str s'), (1, .bool bb)], .row 75 2 (acc.length + 1) (acc.map exV ++ [.agg [(1, .str C.1), (1, .str v)]])]⟩ → R s'' := by
            intro bb s'' hbb hk
            refine hR s'' (f, s', bb, acc ++ [(C.1, v)]) ⟨?_, ?_, ?_, ?_⟩ ?_ ?_
            · simp only; rw [hbb]; rw [hw0] at h1 hdec; omega
            · simp only; rw [hbb]; exact e
            · simp only; rw [hw0] at hdec; unfold wgt at hdec; omega
            · simp only [List.length_append, List.length_cons, List.length_nil]; omega
            · simp only; omega
            · rw [hk]
              simp only [List.length_append, List.length_cons, List.length_nil, List.map_append, List.map_cons, List.map_nil, exV]
          cases h1 : M.2.2 with
          | true =>
            rw [h1] at fin
            simp only [t_cextras_0, h1, go_sem, Nat.reduceDiv, Nat.reduceMod, ↓reduceIte, Nat.reduceEqDiff, Nat.reduceBEq, Nat.reduceSub, Nat.reduceLT, Nat.reduceAdd, Nat.reduceLeDiff, reduceCtorEq, Int.reduceEq, Int.reduceNe, Int.reduceLT, Int.reduceLE, Int.reduceToNat]
            exact ⟨⟨by rw [hlen]; (first | omega | (simp only [lenOk, bytesOk, inI, IntKind.bits, List.length_append, Bs_len, List.length_cons, List.length_nil, List.length_map, List.length_take, List.length_drop, List.length_replicate]; omega)), by rw [hlen]; (first | omega | (simp only [lenOk, bytesOk, inI, IntKind.bits, List.length_append, Bs_len, List.length_cons, List.length_nil, List.length_map, List.length_take, List.length_drop, List.length_replicate]; omega))⟩, fin true _ rfl rfl⟩
          | false =>
            cases h2 : C.2.2 with
            | false =>
              rw [h1, h2] at fin
              simp only [t_cextras_0, h1, h2, go_sem, Nat.reduceDiv, Nat.reduceMod, ↓reduceIte, Nat.reduceEqDiff, Nat.reduceBEq, Nat.reduceSub, Nat.reduceLT, Nat.reduceAdd, Nat.reduceLeDiff, reduceCtorEq, Int.reduceEq, Int.reduceNe, Int.reduceLT, Int.reduceLE, Int.reduceToNat]
              exact ⟨⟨by rw [hlen]; (first | omega | (simp only [lenOk, bytesOk, inI, IntKind.bits, List.length_append, Bs_len, List.length_cons, List.length_nil, List.length_map, List.length_take, List.length_drop, List.length_replicate]; omega)), by rw [hlen]; (first | omega | (simp only [lenOk, bytesOk, inI, IntKind.bits, List.length_append, Bs_len, List.length_cons, List.length_nil, List.length_map, List.length_take, List.length_drop, List.length_replicate]; omega))⟩, fin true _ rfl rfl⟩
            | true =>
              rw [h1, h2] at fin
              simp only [t_cextras_0, phiExt_5, cextraS, h1, h2, go_sem, Nat.reduceDiv, Nat.reduceMod, ↓reduceIte, Nat.reduceEqDiff, Nat.reduceBEq, Nat.reduceSub, Nat.reduceLT, Nat.reduceAdd, Nat.reduceLeDiff, reduceCtorEq, Int.reduceEq, Int.reduceNe, Int.reduceLT, Int.reduceLE, Int.reduceToNat]
              exact ⟨by omega, ⟨by rw [hlen]; (first | omega | (simp only [lenOk, bytesOk, inI, IntKind.bits, List.length_append, Bs_len, List.length_cons, List.length_nil, List.length_map, List.length_take, List.length_drop, List.length_replicate]; omega)), by rw [hlen]; (first | omega | (simp only [lenOk, bytesOk, inI, IntKind.bits, List.length_append, Bs_len, List.length_cons, List.length_nil, List.length_map, List.length_take, List.length_drop, List.length_replicate]; omega))⟩, fin _ _ rfl rfl⟩
  · cases hs
end Go.Proofs.YtlkaaoekbmegkaaGreatDoor
namespace Go.Proofs.YtlkaaoekbmegkaaGreatDoor
set_option linter.all false
open Go.RowKit
open Go.Lib (index hasPrefix cut indexAny itoa)
def treW : List UInt8 := [116, 114, 101, 101, 32]
def parW : List UInt8 := [112, 97, 114, 101, 110, 116, 32]
def autW : List UInt8 := [97, 117, 116, 104, 111, 114, 32]
def comW : List UInt8 := [99, 111, 109, 109, 105, 116, 116, 101, 114, 32]
def parentsG : Nat → List UInt8 → Bool → List (List UInt8) → List UInt8 × Bool × List (List UInt8)
  | 0, s, b, acc => (s, b, acc)
  | f + 1, s, b, acc => if b = false ∧ hasPrefix s parW = true then parentsG f (mustG s b parW).2.1 ((mustG s b parW).2.2 || !goodQ (mustG s b parW).1) (acc ++ [pOut (mustG s b parW).1]) else (s, b, acc)
theorem parents_dec (s : List UInt8) : wgt (mustG s false parW).2.1 ((mustG s false parW).2.2 || !goodQ (mustG s false parW).1) < wgt s false := by
  have h2 := (mustG_len s false parW).2
  have hx : ∀ b : Bool, (if b = true then 0 else 1 : Nat) ≤ 1 := by intro b; split <;> omega
  unfold wgt
  rcases mustG_dec s parW false with h | h
  · simp only [h, Bool.true_or, if_true]; simp; omega
  · have h3 := hx ((mustG s false parW).2.2 || !goodQ (mustG s false parW).1)
    show _ < s.length + 1
    omega
theorem parentsG_len : ∀ (f : Nat) (s : List UInt8) (b : Bool) (acc : List (List UInt8)), (parentsG f s b acc).1.length ≤ s.length ∧ (∀ p ∈ acc, p.length = 20) → (∀ p ∈ (parentsG f s b acc).2.2, p.length = 20) := by
  intro f
  induction f with
  | zero => intro s b acc h; exact h.2
  | succ f ih =>
    intro s b acc h
    unfold parentsG at h ⊢
    split
    · rename_i hc
      rw [if_pos hc] at h
      refine ih _ _ _ ⟨?_, fun p hp => ?_⟩
      · have := (parentsG_l f (mustG s b parW).2.1 ((mustG s b parW).2.2 || !goodQ (mustG s b parW).1) (acc ++ [pOut (mustG s b parW).1]))
        exact this
      · rcases List.mem_append.1 hp with hp | hp
        · exact h.2 p hp
        · rw [List.mem_singleton.1 hp]; exact pOut_len _
    · exact h.2
where
  parentsG_l : ∀ (f : Nat) (s : List UInt8) (b : Bool) (acc : List (List UInt8)), (parentsG f s b acc).1.length ≤ s.length := by
    intro f
    induction f with
    | zero => intro s b acc; exact Nat.le_refl _
    | succ f ih =>
      intro s b acc
      unfold parentsG
      split
      · have := ih (mustG s b parW).2.1 ((mustG s b parW).2.2 || !goodQ (mustG s b parW).1) (acc ++ [pOut (mustG s b parW).1])
        have := (mustG_len s b parW).2
        omega
      · exact Nat.le_refl _
theorem extrasG_len : ∀ (f : Nat) (s : List UInt8) (b : Bool) (acc : List ExL), (extrasG f s b acc).1.length ≤ s.length := by
  intro f
  induction f with
  | zero => intro s b acc; exact Nat.le_refl _
  | succ f ih =>
    intro s b acc
    unfold extrasG
    split
    · have h1 := ih (extra1 s).1 (extra1 s).2.2.1 (acc ++ [(extra1 s).2.2.2])
      have h2 := (contG_len ((mustG s false []).2.1.length + 1) (mustG s false []).2.1 (cut (mustG s false []).1 [32]).2.1).1
      have h3 := (mustG_len s false []).2
      have h4 : (extra1 s).1.length ≤ s.length := by unfold extra1; simp only; omega
      omega
    · exact Nat.le_refl _
def pM (s : List UInt8) := mustG s false treW
def pB0 (s : List UInt8) : Bool := (pM s).2.2 || !goodQ (pM s).1
def pP (s : List UInt8) := parentsG (wgt (pM s).2.1 (pB0 s) + 1) (pM s).2.1 (pB0 s) []
def pA (s : List UInt8) := mustG (pP s).1 (pP s).2.1 autW
noncomputable def pB1 (s : List UInt8) : Bool := (pA s).2.2 || !personB (pA s).1
noncomputable def pC (s : List UInt8) := mustG (pA s).2.1 (pB1 s) comW
noncomputable def pB2 (s : List UInt8) : Bool := (pC s).2.2 || !personB (pC s).1
noncomputable def pE (s : List UInt8) := extrasG (wgt (pC s).2.1 (pB2 s) + 1) (pC s).2.1 (pB2 s) []
noncomputable def pL (s : List UInt8) := mustG (pE s).1 (pE s).2.1 []
noncomputable def parC11 (s : List UInt8) : ComL := ⟨pOut (pM s).1, (pP s).2.2, personV (pA s).1, personV (pC s).1, (pE s).2.2, (pL s).2.1⟩
noncomputable def parB11 (s : List UInt8) : Bool := !(pL s).2.2 && decide ((pL s).1 = [])
def comPs (t : List UInt8) (P : AV) (a c : WhoL) (E : AV) (m : List UInt8) : List (Nat × AV) :=
  [(20, .blob (t.map U)), (1, P), (1, .str a.name), (1, .str a.mail), (1, .int .i64 a.time), (1, .str a.zone), (1, .str c.name), (1, .str c.mail), (1, .int .i64 c.time), (1, .str c.zone), (1, E), (1, .str m)]
def z20L : List UInt8 := List.replicate 20 0
def com0 : List (Nat × AV) := comPs z20L (.con (.slice none 0 0)) who0 who0 (.con (.slice none 0 0)) []
def parR11 (c : ComL) (ok : Bool) (pr : Prop) : Option Ret := if ok = true then
    some ⟨.tup [.agg (comPs c.tree (.own 0 c.parents.length) c.author c.committer (.own 1 c.extras.length) c.message), .int .i64 0], [.row 29 20 c.parents.length (c.parents.map idAV), .row 75 2 c.extras.length (c.extras.map exV)], pr⟩
  else some ⟨.tup [.agg com0, .int .i64 4], [], pr⟩
noncomputable def cparS : Spec := fun xs hp => match xs, hp with
  | [.sl 1 bs], [] => parR11 (parC11 (unB bs)) (parB11 (unB bs)) (bs = Bs (unB bs) ∧ bs.length ≤ 1000000)
  | _, _ => none
theorem parR11_pre {c : ComL} {ok : Bool} {pr : Prop} {r : Ret} (h : parR11 c ok pr = some r) (hr : r.pre) : pr := by
  unfold parR11 at h
  split at h <;> (injection h with h; subst h; exact hr)
noncomputable def phiPar : Phi := phiL [(49, [], cidS), (51, [], cwhoS), (52, [], cextrasS), (53, [], mustS), (50, [], hasPreS), (56, [], kindS)]
theorem phiPar_ok : PhiOk Tryz.prog phiPar := phi_cons cid_ok (by kernel_rfl) (phi_cons cwho_ok (by kernel_rfl) (phi_cons cextras_ok (by kernel_rfl) (phi_cons must_ok (by kernel_rfl) (phi_cons hasPre_ok (by kernel_rfl) (phi_cons okind_ok (by kernel_rfl) phi_nil)))))
theorem phiPar_1 : phiPar 49 = some ([], cidS) := rfl
theorem phiPar_2 : phiPar 51 = some ([], cwhoS) := rfl
theorem phiPar_3 : phiPar 52 = some ([], cextrasS) := rfl
theorem phiPar_4 : phiPar 53 = some ([], mustS) := rfl
theorem phiPar_5 : phiPar 50 = some ([], hasPreS) := rfl
theorem phiPar_6 : phiPar 56 = some ([], kindS) := rfl
theorem z20U : (List.replicate 20 (Value.int .u8 0)) = z20L.map U := rfl
set_option maxHeartbeats 4000000 in
theorem cpar_ok : FnOk Tryz.prog 21 cparS := by
  refine fn_slim2 Tryz.func21 s_cpar phiPar_ok ?_
  intro xs hp r hs hp'
  unfold cparS at hs
  split at hs
  · rename_i bs
    obtain ⟨q1, p1⟩ := parR11_pre hs hp'
    generalize unB bs = s at *
    subst q1
    rw [Bs_len] at p1
    refine ⟨len_le (by kernel_rfl), ?_⟩
    have hM := mustG_len s false treW
    have hM0 : mustG s false [116, 114, 101, 101, 32] = pM s := rfl
    have hM1 : mustG s false treW = pM s := rfl
    have hB0 : ((pM s).2.2 || !goodQ (pM s).1) = pB0 s := rfl
    rw [hM1] at hM
    simp only [c_cpar, phiPar_1, cidS, unB_Bs, z20U, pOut_len, hM0, hB0, go_sem, Nat.reduceDiv, Nat.reduceMod, ↓reduceIte, Nat.reduceEqDiff, Nat.reduceBEq, Nat.reduceSub, Nat.reduceLT, Nat.reduceAdd, Nat.reduceLeDiff, reduceCtorEq, Int.reduceEq, Int.reduceNe, Int.reduceLT, Int.reduceLE, Int.reduceToNat]
    refine ⟨by omega, ?_⟩
    have hPP : parentsG (wgt (pM s).2.1 (pB0 s) + 1) (pM s).2.1 (pB0 s) [] = pP s := rfl
    refine loop2P [(4225, 29, 20)] [2, 4, 5] [0, 1, 2, 3] (fun q : Nat × List UInt8 × Bool × List (List UInt8) => ⟨[(2, .ref 0 0 0), (4, .ref 1 0 0), (5, .ref 2 0 0)],
      [.cells 34 com0, .cells 107 [(1, .str q.2.1), (1, .bool q.2.2.1)], .cells 34 (comPs (pOut (pM s).1) (.own 3 q.2.2.2.length) who0 who0 (.con (.slice none 0 0)) []), .row 29 20 q.2.2.2.length (q.2.2.2.map idAV)]⟩)
      (fun q => wgt q.2.1 q.2.2.1 < q.1 ∧ parentsG q.1 q.2.1 q.2.2.1 q.2.2.2 = pP s ∧ q.2.1.length ≤ 1000000 ∧ q.1 + q.2.2.2.length ≤ 2000000) (fun q => q.1) (wgt (pM s).2.1 (pB0 s) + 1, (pM s).2.1, pB0 s, []) rfl ⟨Nat.lt_succ_self _, hPP, by simp only; omega, by simp only [List.length_nil, wgt]; split <;> omega⟩ ⟨rfl, by rfl⟩ (fun q hq R hR => ?_)
    obtain ⟨f, s1, b, acc⟩ := q
    simp only at hq
    obtain ⟨h1, h2, h3, h4⟩ := hq
    simp only at hR ⊢
    obtain ⟨f, rfl⟩ : ∃ g, f = g + 1 := ⟨f - 1, by omega⟩
    have exitK : ¬ (b = false ∧ hasPrefix s1 parW = true) → pP s = (s1, b, acc) := by
      intro h; rw [← h2]; unfold parentsG; rw [if_neg h]
    have tail : ∀ y0 y1 y2 y3 y4 y5 y6 y7 y8 y9 y10 y11 y12 y13 y14 y15 : AV, pP s = (s1, b, acc) → awp2 phiPar 0 t_cpar_0 (retQ2 r_cpar 0 r) ⟨[[.top, .top, .ref 0 0 0, .top, .ref 1 0 0, .ref 2 0 0, .top, .top, .top, .top, .top, .top, .top, .top, .top, .top], [y0, y1, y2, y3, y4, y5, y6, y7, y8, y9, y10, y11, y12, y13, y14, y15]],
      [.cells 34 com0, .cells 107 [(1, .str s1), (1, .bool b)], .cells 34 (comPs (pOut (pM s).1) (.own 3 acc.length) who0 who0 (.con (.slice none 0 0)) []), .row 29 20 acc.length (acc.map idAV)]⟩ := by
      intro y0 y1 y2 y3 y4 y5 y6 y7 y8 y9 y10 y11 y12 y13 y14 y15 e
      have hA : mustG s1 b [97, 117, 116, 104, 111, 114, 32] = pA s := by unfold pA; rw [e]; rfl
      have hB1 : ((pA s).2.2 || !personB (pA s).1) = pB1 s := rfl
      have hC : mustG (pA s).2.1 (pB1 s) [99, 111, 109, 109, 105, 116, 116, 101, 114, 32] = pC s := rfl
      have hB2 : ((pC s).2.2 || !personB (pC s).1) = pB2 s := rfl
      have hE : extrasG (wgt (pC s).2.1 (pB2 s) + 1) (pC s).2.1 (pB2 s) [] = pE s := rfl
      have hL : mustG (pE s).1 (pE s).2.1 [] = pL s := rfl
      have l1 : (pA s).2.1.length ≤ s1.length := by rw [← hA]; exact (mustG_len _ _ _).2
      have l2 : (pC s).2.1.length ≤ (pA s).2.1.length := by rw [← hC]; exact (mustG_len _ _ _).2
      have l3 : (pE s).1.length ≤ (pC s).2.1.length := extrasG_len _ _ _ _
      have bad : parB11 s = false → r = ⟨.tup [.agg com0, .int .i64 4], [], r.pre⟩ := by
        intro h
        unfold parR11 at hs
        rw [if_neg (by rw [h]; simp)] at hs
        injection hs with hs; subst hs; rfl
      cases h5 : (pL s).2.2 with
      | true =>
        rw [bad (by unfold parB11; rw [h5]; rfl)]
        simp only [t_cpar_0, r_cpar, comPs, com0, who0, phiPar_2, phiPar_3, phiPar_4, cwhoS, cextrasS, mustS, whoP, hA, hB1, hC, hB2, hE, hL, z20U, h5, go_sem, Nat.reduceDiv, Nat.reduceMod, ↓reduceIte, Nat.reduceEqDiff, Nat.reduceBEq, Nat.reduceSub, Nat.reduceLT, Nat.reduceAdd, Nat.reduceLeDiff, reduceCtorEq, Int.reduceEq, Int.reduceNe, Int.reduceLT, Int.reduceLE, Int.reduceToNat]
        exact ⟨by omega, by omega, by omega, by omega⟩
      | false =>
        by_cases h6 : (pL s).1 = []
        · have d6 : decide ((pL s).1 = []) = true := decide_eq_true h6
          have ok : parB11 s = true := by unfold parB11; rw [h5, d6]; rfl
          unfold parR11 at hs
          rw [if_pos ok] at hs
          injection hs with hs; subst hs
          unfold parC11
          simp only [e]
          simp only [t_cpar_0, r_cpar, comPs, com0, who0, phiPar_2, phiPar_3, phiPar_4, cwhoS, cextrasS, mustS, whoP, hA, hB1, hC, hB2, hE, hL, z20U, h5, d6, go_sem, Nat.reduceDiv, Nat.reduceMod, ↓reduceIte, Nat.reduceEqDiff, Nat.reduceBEq, Nat.reduceSub, Nat.reduceLT, Nat.reduceAdd, Nat.reduceLeDiff, reduceCtorEq, Int.reduceEq, Int.reduceNe, Int.reduceLT, Int.reduceLE, Int.reduceToNat]
          exact ⟨by omega, by omega, by omega, by omega⟩
        · have d6 : decide ((pL s).1 = []) = false := decide_eq_false h6
          rw [bad (by unfold parB11; rw [d6]; simp)]
          simp only [t_cpar_0, r_cpar, comPs, com0, who0, phiPar_2, phiPar_3, phiPar_4, cwhoS, cextrasS, mustS, whoP, hA, hB1, hC, hB2, hE, hL, z20U, h5, d6, go_sem, Nat.reduceDiv, Nat.reduceMod, ↓reduceIte, Nat.reduceEqDiff, Nat.reduceBEq, Nat.reduceSub, Nat.reduceLT, Nat.reduceAdd, Nat.reduceLeDiff, reduceCtorEq, Int.reduceEq, Int.reduceNe, Int.reduceLT, Int.reduceLE, Int.reduceToNat]
          exact ⟨by omega, by omega, by omega, by omega⟩
    cases hb : b with
    | true =>
      subst hb
      simp only [b_cpar_0, comPs, com0, who0, phiPar_5, hasPreS, go_sem, Nat.reduceDiv, Nat.reduceMod, ↓reduceIte, Nat.reduceEqDiff, Nat.reduceBEq, Nat.reduceSub, Nat.reduceLT, Nat.reduceAdd, Nat.reduceLeDiff, reduceCtorEq, Int.reduceEq, Int.reduceNe, Int.reduceLT, Int.reduceLE, Int.reduceToNat]
      exact tail _ _ _ _ _ _ _ _ _ _ _ _ _ _ _ _ (exitK (by simp))
    | false =>
      subst hb
      cases hn : hasPrefix s1 parW with
      | false =>
        have hn' : hasPrefix s1 [112, 97, 114, 101, 110, 116, 32] = false := hn
        simp only [b_cpar_0, comPs, com0, who0, phiPar_5, hasPreS, hn', go_sem, Nat.reduceDiv, Nat.reduceMod, ↓reduceIte, Nat.reduceEqDiff, Nat.reduceBEq, Nat.reduceSub, Nat.reduceLT, Nat.reduceAdd, Nat.reduceLeDiff, reduceCtorEq, Int.reduceEq, Int.reduceNe, Int.reduceLT, Int.reduceLE, Int.reduceToNat]
        exact tail _ _ _ _ _ _ _ _ _ _ _ _ _ _ _ _ (exitK (by rw [hn]; simp))
      | true =>
        have hn' : hasPrefix s1 [112, 97, 114, 101, 110, 116, 32] = true := hn
        simp only [b_cpar_0, comPs, com0, who0, phiPar_1, phiPar_5, cidS, hasPreS, z20U, pOut_len, hn', go_sem, Nat.reduceDiv, Nat.reduceMod, ↓reduceIte, Nat.reduceEqDiff, Nat.reduceBEq, Nat.reduceSub, Nat.reduceLT, Nat.reduceAdd, Nat.reduceLeDiff, reduceCtorEq, Int.reduceEq, Int.reduceNe, Int.reduceLT, Int.reduceLE, Int.reduceToNat]
        have hm : mustG s1 false [112, 97, 114, 101, 110, 116, 32] = mustG s1 false parW := rfl
        have hlen : (acc.map idAV ++ [AV.blob ((pOut (mustG s1 false [112, 97, 114, 101, 110, 116, 32]).1).map U)]).length = acc.length + 1 := by simp
        have hdec := parents_dec s1
        have hw0 : wgt s1 false = s1.length + 1 := rfl
        have hml := mustG_len s1 false parW
        have e2 : parentsG f (mustG s1 false parW).2.1 ((mustG s1 false parW).2.2 || !goodQ (mustG s1 false parW).1) (acc ++ [pOut (mustG s1 false parW).1]) = pP s := by rw [← h2]; conv => rhs; unfold parentsG; rw [if_pos ⟨rfl, hn⟩]
        refine ⟨by omega, ⟨by rw [hlen]; (first | omega | (simp only [lenOk, bytesOk, inI, IntKind.bits, List.length_append, Bs_len, List.length_cons, List.length_nil, List.length_map, List.length_take, List.length_drop, List.length_replicate]; omega)), by rw [hlen]; (first | omega | (simp only [lenOk, bytesOk, inI, IntKind.bits, List.length_append, Bs_len, List.length_cons, List.length_nil, List.length_map, List.length_take, List.length_drop, List.length_replicate]; omega))⟩, hR _ (f, (mustG s1 false parW).2.1, ((mustG s1 false parW).2.2 || !goodQ (mustG s1 false parW).1), acc ++ [pOut (mustG s1 false parW).1]) ⟨by simp only; omega, e2, by simp only; omega, by simp only [List.length_append, List.length_cons, List.length_nil]; omega⟩ (by simp only; omega) ?_⟩
        simp only [List.length_append, List.length_cons, List.length_nil, List.map_append, List.map_cons, List.map_nil]
        rfl
  · cases hs
end Go.Proofs.YtlkaaoekbmegkaaGreatDoor
namespace Go.Proofs.YtlkaaoekbmegkaaGreatDoor
set_option linter.all false
open Go.RowKit
open Go.Lib (decDigits itoa)
noncomputable def decP : Nat → List UInt8 := sealF fun n => if n = 0 then [] else decDigits n
theorem decP_0 : decP 0 = [] := by unfold decP; rw [sealF_eq]; rfl
theorem decP_pos {n : Nat} (h : 0 < n) : decP n = decDigits n := by unfold decP; rw [sealF_eq]; exact if_neg (by omega)
theorem decP_step {n : Nat} (h : 0 < n) : decP n = decP (n / 10) ++ [dc (n % 10)] := by
  rw [decP_pos h]
  by_cases h1 : n < 10
  · rw [decD_small h1, Nat.div_eq_of_lt h1, decP_0, Nat.mod_eq_of_lt h1]; rfl
  · rw [decD_big (by omega), decP_pos (by omega)]
theorem decD_last (n : Nat) : decP (n / 10) ++ [dc (n % 10)] = decDigits n := by
  by_cases h : n = 0
  · subst h; rw [decP_0, decD_small (by omega)]; rfl
  · rw [← decP_step (by omega), decP_pos (by omega)]
def b_rdec_0 : ACode := (.seq (.seq (.reg none [⟨(some 7), (.mv (.t 0)), none⟩, ⟨(some 8), (.bin .lss (.t 7) (.c (.int .i64 0))), none⟩]) (.cond (.t 8) .skip (.exit 0))) (.block 1 (.seq (.reg none [⟨(some 9), (.mv (.t 0)), none⟩, ⟨(some 10), (.bin .rem (.t 9) (.c (.int .i64 10))), none⟩, ⟨(some 11), (.bin .sub (.c (.int .i64 48)) (.t 10)), none⟩, ⟨(some 12), (.toInt .u8 (.t 11)), none⟩, ⟨(some 13), (.buildSl 5 1 [(.t 12)]), none⟩, ⟨(some 14), (.toStr (.t 13)), none⟩, ⟨(some 15), (.mv (.t 3)), none⟩, ⟨(some 16), (.bin .add (.t 14) (.t 15)), none⟩, ⟨(some 3), (.mv (.t 16)), none⟩]) (.reg none [⟨(some 17), (.mv (.t 0)), none⟩, ⟨(some 18), (.bin .quo (.t 17) (.c (.int .i64 10))), none⟩, ⟨(some 0), (.mv (.t 18)), none⟩]))))
def b_rdec_1 : ACode := (.seq (.seq (.reg none [⟨(some 29), (.mv (.t 0)), none⟩, ⟨(some 30), (.bin .gtr (.t 29) (.c (.int .i64 0))), none⟩]) (.cond (.t 30) .skip (.exit 2))) (.seq (.block 3 (.reg none [⟨(some 33), (.mv (.t 0)), none⟩, ⟨(some 34), (.bin .rem (.t 33) (.c (.int .i64 10))), none⟩, ⟨(some 35), (.bin .add (.c (.int .i64 48)) (.t 34)), none⟩, ⟨(some 36), (.toInt .u8 (.t 35)), none⟩, ⟨(some 37), (.buildSl 5 1 [(.t 36)]), none⟩, ⟨(some 38), (.toStr (.t 37)), none⟩, ⟨(some 39), (.mv (.t 4)), none⟩, ⟨(some 40), (.bin .add (.t 38) (.t 39)), none⟩, ⟨(some 4), (.mv (.t 40)), none⟩])) (.reg none [⟨(some 31), (.mv (.t 0)), none⟩, ⟨(some 32), (.bin .quo (.t 31) (.c (.int .i64 10))), none⟩, ⟨(some 0), (.mv (.t 32)), none⟩])))
def t_rdec_0 : ACode := (.seq (.reg none [⟨(some 41), (.mv (.t 4)), none⟩, ⟨(some 2), (.mv (.t 41)), none⟩]) .ret)
def t_rdec_1 : ACode := (.seq (.reg none [⟨(some 21), (.mv (.t 0)), none⟩, ⟨(some 22), (.bin .rem (.t 21) (.c (.int .i64 10))), none⟩, ⟨(some 23), (.bin .add (.c (.int .i64 48)) (.t 22)), none⟩, ⟨(some 24), (.toInt .u8 (.t 23)), none⟩, ⟨(some 25), (.buildSl 5 1 [(.t 24)]), none⟩, ⟨(some 26), (.toStr (.t 25)), none⟩, ⟨(some 4), (.mv (.t 26)), none⟩]) (.seq (.seq (.reg none [⟨(some 27), (.mv (.t 0)), none⟩, ⟨(some 28), (.bin .quo (.t 27) (.c (.int .i64 10))), none⟩, ⟨(some 0), (.mv (.t 28)), none⟩]) (.block 2 (.loop b_rdec_1))) t_rdec_0))
def c_rdec : ACode := (.seq (.reg none [⟨(some 2), (.mv (.c (.str []))), none⟩]) (.seq (.seq (.reg none [⟨(some 5), (.mv (.t 0)), none⟩, ⟨(some 6), (.bin .lss (.t 5) (.c (.int .i64 0))), none⟩]) (.cond (.t 6) (.seq (.reg none [⟨(some 3), (.mv (.c (.str []))), none⟩]) (.seq (.block 0 (.loop b_rdec_0)) (.seq (.reg none [⟨(some 19), (.mv (.t 3)), none⟩, ⟨(some 20), (.bin .add (.c (.str [45])) (.t 19)), none⟩, ⟨(some 2), (.mv (.t 20)), none⟩]) .ret))) .skip)) t_rdec_1))
def r_rdec : List ARes := [(.t 2)]
theorem s_rdec : slimF Tryz.prog Tryz.f43 = some (c_rdec, r_rdec) := by kernel_rfl
theorem rdec_ok : FnOk Tryz.prog 43 itoaS := by
  refine fn_slim Tryz.func43 s_rdec (Φ := phiL []) phi_nil ?_
  intro xs hp r hs hp'
  unfold itoaS at hs
  split at hs
  · injection hs with hs; subst hs
    rename_i n
    refine ⟨len_le (by kernel_rfl), ?_⟩
    have hn : inI n := hp'
    obtain ⟨hn1, hn2⟩ := hn
    by_cases hneg : n < 0
    · have d1 : decide (n < 0) = true := decide_eq_true hneg
      obtain ⟨m, rfl⟩ : ∃ m : Nat, n = -(m : Int) := ⟨n.natAbs, by omega⟩
      have hit : itoa (-(m : Int)) = 45 :: decDigits m := Lib.itoa_neg m (by omega)
      have hlen := decD_pow 18 m (by omega)
      simp only [c_rdec, d1, awp_scope, noG_n, noG_r, noG_x, awp_skip, awp_reg, awp_draw, awp_seq, awp_cond, awp_block, awp_loop, awp_exit, awp_ret, arun_nil, arun_op, arun_gt, arun_gf, arunD_nil, arunD_op, arunD_gt, arunD_gf, aq_some, isB_t, isB_u, isB_f, isB_g, isB_p, isU_t, isU_b, ifB_t, ifB_f, thenQ_n, thenQ_x, thenQ_r, inQ_n, inQ_r, inQ_x, retQ_n, retQ_r, exD, AOp.isH, keepN, preB, avalP, pureR, astep, stV, stN, stE, stC, aval, anew, aElems, frzS, frzH, aeff, slots, aret, ares, aress, AV.isTup, eqFs, aEqS, ofC_i, ofC_b, ofC_s, ofC_U, getD_mapU, getD_Bs, Bs_len, Int.toNat_natCast, opd, pt, tk, subp, rdP, Rt.size, Rt.isAgg, Rt.zv, aBin, aInt, aStr, arI, aUn, aToInt, aToStr, aIdxS, zv, aIdxA, aIa, aIaA, aFa, aLd, aFld, pparts, aLo, aHi, cutL, aSlS, aSl, aExt, aNck, aNilc, AV.isStr, aLen, AV.one, AV.multi, pureB, szOk, psz, drp, spl, aEqB, aEqA, aMm, aMkfn, aMkif, aBuild, toV, aBuildA, wrP, unparts, view, nilS, St.ev, lk, St.put, St.pin, St.pinV, acall0, acall1, acall2, acall3, bor, bor0, bor1, phiL_nil, phiL_at, tau, lentO, okIds, flatC, flatB, flatOs, flatO, flatPs, place, setAll_nil, setAll_cons, nodupB, renObj, closeIds, addNew, idsOf, idsObj, posOf, lenOk_0, lenOk_1, lenOk_2, lenOk_3, lenOk_4, lenOk_8, ↓reduceIte, Option.isSome_none, Option.isSome_some, Bool.or_true, Bool.true_or,  Nat.reduceEqDiff, Nat.reduceBEq, Nat.reduceSub, Nat.reduceLT, beq_self_eq_true, List.map, List.set, List.map_cons, List.map_nil, List.flatMap_cons, List.flatMap_nil, List.flatten_cons, List.flatten_nil, true_and, and_true, List.length_cons, List.length_nil, Nat.reduceAdd, Nat.reduceLeDiff, List.nil_append, List.cons_append, List.append_nil, Option.map, mapO, ren, kp, kpI, ent, nilG, Option.bind, List.range, List.range.loop, List.getElem?_cons_zero, List.getElem?_cons_succ, List.getElem?_nil, List.getD_cons_zero, List.getD_cons_succ, List.drop_zero, List.drop_succ_cons, List.drop_nil, List.take_zero, List.take_succ_cons, List.all_cons, List.all_nil, List.isEmpty_nil, List.isEmpty_cons, Bool.and_true, Bool.true_and, Bool.not_true, Bool.not_false, List.contains_nil, reduceCtorEq, List.contains_cons, Bool.or_false, Bool.false_or, eq_self, forall_const, false_implies, Bool.false_eq_true, Nat.le_refl, List.length_map, List.length_set, List.length_replicate, and_self, implies_true]
      refine loop_at [] [0, 3] [] (fun a : Nat × List UInt8 => ⟨[(0, .int .i64 (-(a.1 : Int))), (3, .str a.2)], []⟩) (fun a => decP a.1 ++ a.2 = decDigits m ∧ a.1 ≤ m) (fun a => a.1) (m, []) rfl ⟨by simp only [List.append_nil]; exact decP_pos (by omega), Nat.le_refl _⟩ ⟨rfl, rfl⟩ (fun a ha => ?_)
      obtain ⟨cur, s⟩ := a
      obtain ⟨ha, hb⟩ := ha
      simp only at ha hb
      have hl := congrArg List.length ha
      rw [List.length_append] at hl
      by_cases hc : cur = 0
      · subst hc
        have d2 : decide (-((0 : Nat) : Int) < 0) = false := decide_eq_false (by omega)
        rw [decP_0, List.nil_append] at ha
        subst ha
        simp only [b_rdec_0, r_rdec, d2, hit, awp_scope, noG_n, noG_r, noG_x, awp_skip, awp_reg, awp_draw, awp_seq, awp_cond, awp_block, awp_loop, awp_exit, awp_ret, arun_nil, arun_op, arun_gt, arun_gf, arunD_nil, arunD_op, arunD_gt, arunD_gf, aq_some, isB_t, isB_u, isB_f, isB_g, isB_p, isU_t, isU_b, ifB_t, ifB_f, thenQ_n, thenQ_x, thenQ_r, inQ_n, inQ_r, inQ_x, retQ_n, retQ_r, exD, AOp.isH, keepN, preB, avalP, pureR, astep, stV, stN, stE, stC, aval, anew, aElems, frzS, frzH, aeff, slots, aret, ares, aress, AV.isTup, eqFs, aEqS, ofC_i, ofC_b, ofC_s, ofC_U, getD_mapU, getD_Bs, Bs_len, Int.toNat_natCast, opd, pt, tk, subp, rdP, Rt.size, Rt.isAgg, Rt.zv, aBin, aInt, aStr, arI, aUn, aToInt, aToStr, aIdxS, zv, aIdxA, aIa, aIaA, aFa, aLd, aFld, pparts, aLo, aHi, cutL, aSlS, aSl, aExt, aNck, aNilc, AV.isStr, aLen, AV.one, AV.multi, pureB, szOk, psz, drp, spl, aEqB, aEqA, aMm, aMkfn, aMkif, aBuild, toV, aBuildA, wrP, unparts, view, nilS, St.ev, lk, St.put, St.pin, St.pinV, acall0, acall1, acall2, acall3, bor, bor0, bor1, phiL_nil, phiL_at, tau, lentO, okIds, flatC, flatB, flatOs, flatO, flatPs, place, setAll_nil, setAll_cons, nodupB, renObj, closeIds, addNew, idsOf, idsObj, posOf, lenOk_0, lenOk_1, lenOk_2, lenOk_3, lenOk_4, lenOk_8, ↓reduceIte, Option.isSome_none, Option.isSome_some, Bool.or_true, Bool.true_or,  Nat.reduceEqDiff, Nat.reduceBEq, Nat.reduceSub, Nat.reduceLT, beq_self_eq_true, List.map, List.set, List.map_cons, List.map_nil, List.flatMap_cons, List.flatMap_nil, List.flatten_cons, List.flatten_nil, true_and, and_true, List.length_cons, List.length_nil, Nat.reduceAdd, Nat.reduceLeDiff, List.nil_append, List.cons_append, List.append_nil, Option.map, mapO, ren, kp, kpI, ent, nilG, Option.bind, List.range, List.range.loop, List.getElem?_cons_zero, List.getElem?_cons_succ, List.getElem?_nil, List.getD_cons_zero, List.getD_cons_succ, List.drop_zero, List.drop_succ_cons, List.drop_nil, List.take_zero, List.take_succ_cons, List.all_cons, List.all_nil, List.isEmpty_nil, List.isEmpty_cons, Bool.and_true, Bool.true_and, Bool.not_true, Bool.not_false, List.contains_nil, reduceCtorEq, List.contains_cons, Bool.or_false, Bool.false_or, eq_self, forall_const, false_implies, Bool.false_eq_true, Nat.le_refl, List.length_map, List.length_set, List.length_replicate, and_self, implies_true]
        simp only [Bool.false_eq_true, renObj, finP, finI, closeIds, addNew, idsOf, List.flatMap_nil, List.flatMap_cons, List.append_nil, List.nil_append, List.take_zero, nodupB, posOf, idsObj, List.getD_cons_zero, List.getD_cons_succ, List.range, List.range.loop, ren, lentO, mapO, Option.map, ↓reduceIte, Nat.reduceEqDiff, true_and, and_true, List.getElem?_cons_zero, List.getElem?_cons_succ, Nat.reduceAdd, List.contains_nil, Bool.not_false, Bool.and_true, List.map_nil, List.map_cons, List.take_succ_cons]
        (first | omega | (simp only [lenOk, bytesOk, inI, IntKind.bits, List.length_append, Bs_len, List.length_cons, List.length_nil, List.length_map, List.length_take, List.length_drop, List.length_replicate]; omega))
      · have d2 : decide (-(cur : Int) < 0) = true := decide_eq_true (by omega)
        have e1 : (-(cur : Int)).tmod 10 = -((cur % 10 : Nat) : Int) := by rw [Int.neg_tmod, show (10 : Int) = ((10 : Nat) : Int) from rfl, tmod_nat]
        have e2 : (-(cur : Int)).tdiv 10 = -((cur / 10 : Nat) : Int) := by rw [Int.neg_tdiv, show (10 : Int) = ((10 : Nat) : Int) from rfl, tdiv_nat]
        have e3 : 48 - -((cur % 10 : Nat) : Int) = ((48 + cur % 10 : Nat) : Int) := by omega
        simp only [b_rdec_0, d2, e1, e2, e3, wrap8n (show 48 + cur % 10 < 256 by omega), Bs_o8 _ (show 48 + cur % 10 < 256 by omega), unB_Bs, awp_scope, noG_n, noG_r, noG_x, awp_skip, awp_reg, awp_draw, awp_seq, awp_cond, awp_block, awp_loop, awp_exit, awp_ret, arun_nil, arun_op, arun_gt, arun_gf, arunD_nil, arunD_op, arunD_gt, arunD_gf, aq_some, isB_t, isB_u, isB_f, isB_g, isB_p, isU_t, isU_b, ifB_t, ifB_f, thenQ_n, thenQ_x, thenQ_r, inQ_n, inQ_r, inQ_x, retQ_n, retQ_r, exD, AOp.isH, keepN, preB, avalP, pureR, astep, stV, stN, stE, stC, aval, anew, aElems, frzS, frzH, aeff, slots, aret, ares, aress, AV.isTup, eqFs, aEqS, ofC_i, ofC_b, ofC_s, ofC_U, getD_mapU, getD_Bs, Bs_len, Int.toNat_natCast, opd, pt, tk, subp, rdP, Rt.size, Rt.isAgg, Rt.zv, aBin, aInt, aStr, arI, aUn, aToInt, aToStr, aIdxS, zv, aIdxA, aIa, aIaA, aFa, aLd, aFld, pparts, aLo, aHi, cutL, aSlS, aSl, aExt, aNck, aNilc, AV.isStr, aLen, AV.one, AV.multi, pureB, szOk, psz, drp, spl, aEqB, aEqA, aMm, aMkfn, aMkif, aBuild, toV, aBuildA, wrP, unparts, view, nilS, St.ev, lk, St.put, St.pin, St.pinV, acall0, acall1, acall2, acall3, bor, bor0, bor1, phiL_nil, phiL_at, tau, lentO, okIds, flatC, flatB, flatOs, flatO, flatPs, place, setAll_nil, setAll_cons, nodupB, renObj, closeIds, addNew, idsOf, idsObj, posOf, lenOk_0, lenOk_1, lenOk_2, lenOk_3, lenOk_4, lenOk_8, ↓reduceIte, Option.isSome_none, Option.isSome_some, Bool.or_true, Bool.true_or,  Nat.reduceEqDiff, Nat.reduceBEq, Nat.reduceSub, Nat.reduceLT, beq_self_eq_true, List.map, List.set, List.map_cons, List.map_nil, List.flatMap_cons, List.flatMap_nil, List.flatten_cons, List.flatten_nil, true_and, and_true, List.length_cons, List.length_nil, Nat.reduceAdd, Nat.reduceLeDiff, List.nil_append, List.cons_append, List.append_nil, Option.map, mapO, ren, kp, kpI, ent, nilG, Option.bind, List.range, List.range.loop, List.getElem?_cons_zero, List.getElem?_cons_succ, List.getElem?_nil, List.getD_cons_zero, List.getD_cons_succ, List.drop_zero, List.drop_succ_cons, List.drop_nil, List.take_zero, List.take_succ_cons, List.all_cons, List.all_nil, List.isEmpty_nil, List.isEmpty_cons, Bool.and_true, Bool.true_and, Bool.not_true, Bool.not_false, List.contains_nil, reduceCtorEq, List.contains_cons, Bool.or_false, Bool.false_or, eq_self, forall_const, false_implies, Bool.false_eq_true, Nat.le_refl, List.length_map, List.length_set, List.length_replicate, and_self, implies_true]
        refine ⟨by omega, by (first | omega | (simp only [lenOk, bytesOk, inI, IntKind.bits, List.length_append, Bs_len, List.length_cons, List.length_nil, List.length_map, List.length_take, List.length_drop, List.length_replicate]; omega)), by (first | omega | (simp only [lenOk, bytesOk, inI, IntKind.bits, List.length_append, Bs_len, List.length_cons, List.length_nil, List.length_map, List.length_take, List.length_drop, List.length_replicate]; omega)), ⟨by omega, by (first | omega | (simp only [lenOk, bytesOk, inI, IntKind.bits, List.length_append, Bs_len, List.length_cons, List.length_nil, List.length_map, List.length_take, List.length_drop, List.length_replicate]; omega))⟩, (cur / 10, o8 (48 + cur % 10) :: s), ⟨?_, by simp only; omega⟩, by simp only; omega, rfl⟩
        rw [decP_step (by omega), List.append_assoc] at ha
        exact ha
    · have d1 : decide (n < 0) = false := decide_eq_false hneg
      obtain ⟨m, rfl⟩ : ∃ m : Nat, n = (m : Int) := ⟨n.natAbs, by omega⟩
      have hit : itoa (m : Int) = decDigits m := itoa_nat m
      have hlen := decD_pow 18 m (by omega)
      have e1 : ∀ c : Nat, (c : Int).tmod 10 = ((c % 10 : Nat) : Int) := fun c => tmod_nat c 10
      have e2 : ∀ c : Nat, (c : Int).tdiv 10 = ((c / 10 : Nat) : Int) := fun c => tdiv_nat c 10
      have e3 : ∀ c : Nat, 48 + ((c % 10 : Nat) : Int) = ((48 + c % 10 : Nat) : Int) := fun c => by omega
      simp only [c_rdec, t_rdec_1, d1, e1, e2, e3, wrap8n (show 48 + m % 10 < 256 by omega), Bs_o8 _ (show 48 + m % 10 < 256 by omega), unB_Bs, awp_scope, noG_n, noG_r, noG_x, awp_skip, awp_reg, awp_draw, awp_seq, awp_cond, awp_block, awp_loop, awp_exit, awp_ret, arun_nil, arun_op, arun_gt, arun_gf, arunD_nil, arunD_op, arunD_gt, arunD_gf, aq_some, isB_t, isB_u, isB_f, isB_g, isB_p, isU_t, isU_b, ifB_t, ifB_f, thenQ_n, thenQ_x, thenQ_r, inQ_n, inQ_r, inQ_x, retQ_n, retQ_r, exD, AOp.isH, keepN, preB, avalP, pureR, astep, stV, stN, stE, stC, aval, anew, aElems, frzS, frzH, aeff, slots, aret, ares, aress, AV.isTup, eqFs, aEqS, ofC_i, ofC_b, ofC_s, ofC_U, getD_mapU, getD_Bs, Bs_len, Int.toNat_natCast, opd, pt, tk, subp, rdP, Rt.size, Rt.isAgg, Rt.zv, aBin, aInt, aStr, arI, aUn, aToInt, aToStr, aIdxS, zv, aIdxA, aIa, aIaA, aFa, aLd, aFld, pparts, aLo, aHi, cutL, aSlS, aSl, aExt, aNck, aNilc, AV.isStr, aLen, AV.one, AV.multi, pureB, szOk, psz, drp, spl, aEqB, aEqA, aMm, aMkfn, aMkif, aBuild, toV, aBuildA, wrP, unparts, view, nilS, St.ev, lk, St.put, St.pin, St.pinV, acall0, acall1, acall2, acall3, bor, bor0, bor1, phiL_nil, phiL_at, tau, lentO, okIds, flatC, flatB, flatOs, flatO, flatPs, place, setAll_nil, setAll_cons, nodupB, renObj, closeIds, addNew, idsOf, idsObj, posOf, lenOk_0, lenOk_1, lenOk_2, lenOk_3, lenOk_4, lenOk_8, ↓reduceIte, Option.isSome_none, Option.isSome_some, Bool.or_true, Bool.true_or,  Nat.reduceEqDiff, Nat.reduceBEq, Nat.reduceSub, Nat.reduceLT, beq_self_eq_true, List.map, List.set, List.map_cons, List.map_nil, List.flatMap_cons, List.flatMap_nil, List.flatten_cons, List.flatten_nil, true_and, and_true, List.length_cons, List.length_nil, Nat.reduceAdd, Nat.reduceLeDiff, List.nil_append, List.cons_append, List.append_nil, Option.map, mapO, ren, kp, kpI, ent, nilG, Option.bind, List.range, List.range.loop, List.getElem?_cons_zero, List.getElem?_cons_succ, List.getElem?_nil, List.getD_cons_zero, List.getD_cons_succ, List.drop_zero, List.drop_succ_cons, List.drop_nil, List.take_zero, List.take_succ_cons, List.all_cons, List.all_nil, List.isEmpty_nil, List.isEmpty_cons, Bool.and_true, Bool.true_and, Bool.not_true, Bool.not_false, List.contains_nil, reduceCtorEq, List.contains_cons, Bool.or_false, Bool.false_or, eq_self, forall_const, false_implies, Bool.false_eq_true, Nat.le_refl, List.length_map, List.length_set, List.length_replicate, and_self, implies_true]
      refine ⟨by omega, by (first | omega | (simp only [lenOk, bytesOk, inI, IntKind.bits, List.length_append, Bs_len, List.length_cons, List.length_nil, List.length_map, List.length_take, List.length_drop, List.length_replicate]; omega)), ⟨by omega, by (first | omega | (simp only [lenOk, bytesOk, inI, IntKind.bits, List.length_append, Bs_len, List.length_cons, List.length_nil, List.length_map, List.length_take, List.length_drop, List.length_replicate]; omega))⟩, ?_⟩
      refine loop_at [] [0, 4] [] (fun a : Nat × List UInt8 => ⟨[(0, .int .i64 (a.1 : Int)), (4, .str a.2)], []⟩) (fun a => decP a.1 ++ a.2 = decDigits m ∧ a.1 ≤ m) (fun a => a.1) (m / 10, [o8 (48 + m % 10)]) rfl ⟨decD_last m, by simp only; omega⟩ ⟨rfl, rfl⟩ (fun a ha => ?_)
      obtain ⟨cur, s⟩ := a
      obtain ⟨ha, hb⟩ := ha
      simp only at ha hb
      have hl := congrArg List.length ha
      rw [List.length_append] at hl
      by_cases hc : cur = 0
      · subst hc
        have d2 : decide ((0 : Int) < ((0 : Nat) : Int)) = false := decide_eq_false (by omega)
        rw [decP_0, List.nil_append] at ha
        subst ha
        simp only [b_rdec_1, t_rdec_0, r_rdec, d2, hit, awp_scope, noG_n, noG_r, noG_x, awp_skip, awp_reg, awp_draw, awp_seq, awp_cond, awp_block, awp_loop, awp_exit, awp_ret, arun_nil, arun_op, arun_gt, arun_gf, arunD_nil, arunD_op, arunD_gt, arunD_gf, aq_some, isB_t, isB_u, isB_f, isB_g, isB_p, isU_t, isU_b, ifB_t, ifB_f, thenQ_n, thenQ_x, thenQ_r, inQ_n, inQ_r, inQ_x, retQ_n, retQ_r, exD, AOp.isH, keepN, preB, avalP, pureR, astep, stV, stN, stE, stC, aval, anew, aElems, frzS, frzH, aeff, slots, aret, ares, aress, AV.isTup, eqFs, aEqS, ofC_i, ofC_b, ofC_s, ofC_U, getD_mapU, getD_Bs, Bs_len, Int.toNat_natCast, opd, pt, tk, subp, rdP, Rt.size, Rt.isAgg, Rt.zv, aBin, aInt, aStr, arI, aUn, aToInt, aToStr, aIdxS, zv, aIdxA, aIa, aIaA, aFa, aLd, aFld, pparts, aLo, aHi, cutL, aSlS, aSl, aExt, aNck, aNilc, AV.isStr, aLen, AV.one, AV.multi, pureB, szOk, psz, drp, spl, aEqB, aEqA, aMm, aMkfn, aMkif, aBuild, toV, aBuildA, wrP, unparts, view, nilS, St.ev, lk, St.put, St.pin, St.pinV, acall0, acall1, acall2, acall3, bor, bor0, bor1, phiL_nil, phiL_at, tau, lentO, okIds, flatC, flatB, flatOs, flatO, flatPs, place, setAll_nil, setAll_cons, nodupB, renObj, closeIds, addNew, idsOf, idsObj, posOf, lenOk_0, lenOk_1, lenOk_2, lenOk_3, lenOk_4, lenOk_8, ↓reduceIte, Option.isSome_none, Option.isSome_some, Bool.or_true, Bool.true_or,  Nat.reduceEqDiff, Nat.reduceBEq, Nat.reduceSub, Nat.reduceLT, beq_self_eq_true, List.map, List.set, List.map_cons, List.map_nil, List.flatMap_cons, List.flatMap_nil, List.flatten_cons, List.flatten_nil, true_and, and_true, List.length_cons, List.length_nil, Nat.reduceAdd, Nat.reduceLeDiff, List.nil_append, List.cons_append, List.append_nil, Option.map, mapO, ren, kp, kpI, ent, nilG, Option.bind, List.range, List.range.loop, List.getElem?_cons_zero, List.getElem?_cons_succ, List.getElem?_nil, List.getD_cons_zero, List.getD_cons_succ, List.drop_zero, List.drop_succ_cons, List.drop_nil, List.take_zero, List.take_succ_cons, List.all_cons, List.all_nil, List.isEmpty_nil, List.isEmpty_cons, Bool.and_true, Bool.true_and, Bool.not_true, Bool.not_false, List.contains_nil, reduceCtorEq, List.contains_cons, Bool.or_false, Bool.false_or, eq_self, forall_const, false_implies, Bool.false_eq_true, Nat.le_refl, List.length_map, List.length_set, List.length_replicate, and_self, implies_true]
        simp only [Bool.false_eq_true, renObj, finP, finI, closeIds, addNew, idsOf, List.flatMap_nil, List.flatMap_cons, List.append_nil, List.nil_append, List.take_zero, nodupB, posOf, idsObj, List.getD_cons_zero, List.getD_cons_succ, List.range, List.range.loop, ren, lentO, mapO, Option.map, ↓reduceIte, Nat.reduceEqDiff, true_and, and_true, List.getElem?_cons_zero, List.getElem?_cons_succ, Nat.reduceAdd, List.contains_nil, Bool.not_false, Bool.and_true, List.map_nil, List.map_cons, List.take_succ_cons]
      · have d2 : decide ((0 : Int) < (cur : Int)) = true := decide_eq_true (by omega)
        simp only [b_rdec_1, d2, e1, e2, e3, wrap8n (show 48 + cur % 10 < 256 by omega), Bs_o8 _ (show 48 + cur % 10 < 256 by omega), unB_Bs, awp_scope, noG_n, noG_r, noG_x, awp_skip, awp_reg, awp_draw, awp_seq, awp_cond, awp_block, awp_loop, awp_exit, awp_ret, arun_nil, arun_op, arun_gt, arun_gf, arunD_nil, arunD_op, arunD_gt, arunD_gf, aq_some, isB_t, isB_u, isB_f, isB_g, isB_p, isU_t, isU_b, ifB_t, ifB_f, thenQ_n, thenQ_x, thenQ_r, inQ_n, inQ_r, inQ_x, retQ_n, retQ_r, exD, AOp.isH, keepN, preB, avalP, pureR, astep, stV, stN, stE, stC, aval, anew, aElems, frzS, frzH, aeff, slots, aret, ares, aress, AV.isTup, eqFs, aEqS, ofC_i, ofC_b, ofC_s, ofC_U, getD_mapU, getD_Bs, Bs_len, Int.toNat_natCast, opd, pt, tk, subp, rdP, Rt.size, Rt.isAgg, Rt.zv, aBin, aInt, aStr, arI, aUn, aToInt, aToStr, aIdxS, zv, aIdxA, aIa, aIaA, aFa, aLd, aFld, pparts, aLo, aHi, cutL, aSlS, aSl, aExt, aNck, aNilc, AV.isStr, aLen, AV.one, AV.multi, pureB, szOk, psz, drp, spl, aEqB, aEqA, aMm, aMkfn, aMkif, aBuild, toV, aBuildA, wrP, unparts, view, nilS, St.ev, lk, St.put, St.pin, St.pinV, acall0, acall1, acall2, acall3, bor, bor0, bor1, phiL_nil, phiL_at, tau, lentO, okIds, flatC, flatB, flatOs, flatO, flatPs, place, setAll_nil, setAll_cons, nodupB, renObj, closeIds, addNew, idsOf, idsObj, posOf, lenOk_0, lenOk_1, lenOk_2, lenOk_3, lenOk_4, lenOk_8, ↓reduceIte, Option.isSome_none, Option.isSome_some, Bool.or_true, Bool.true_or,  Nat.reduceEqDiff, Nat.reduceBEq, Nat.reduceSub, Nat.reduceLT, beq_self_eq_true, List.map, List.set, List.map_cons, List.map_nil, List.flatMap_cons, List.flatMap_nil, List.flatten_cons, List.flatten_nil, true_and, and_true, List.length_cons, List.length_nil, Nat.reduceAdd, Nat.reduceLeDiff, List.nil_append, List.cons_append, List.append_nil, Option.map, mapO, ren, kp, kpI, ent, nilG, Option.bind, List.range, List.range.loop, List.getElem?_cons_zero, List.getElem?_cons_succ, List.getElem?_nil, List.getD_cons_zero, List.getD_cons_succ, List.drop_zero, List.drop_succ_cons, List.drop_nil, List.take_zero, List.take_succ_cons, List.all_cons, List.all_nil, List.isEmpty_nil, List.isEmpty_cons, Bool.and_true, Bool.true_and, Bool.not_true, Bool.not_false, List.contains_nil, reduceCtorEq, List.contains_cons, Bool.or_false, Bool.false_or, eq_self, forall_const, false_implies, Bool.false_eq_true, Nat.le_refl, List.length_map, List.length_set, List.length_replicate, and_self, implies_true]
        refine ⟨by omega, by (first | omega | (simp only [lenOk, bytesOk, inI, IntKind.bits, List.length_append, Bs_len, List.length_cons, List.length_nil, List.length_map, List.length_take, List.length_drop, List.length_replicate]; omega)), by (first | omega | (simp only [lenOk, bytesOk, inI, IntKind.bits, List.length_append, Bs_len, List.length_cons, List.length_nil, List.length_map, List.length_take, List.length_drop, List.length_replicate]; omega)), ⟨by omega, by (first | omega | (simp only [lenOk, bytesOk, inI, IntKind.bits, List.length_append, Bs_len, List.length_cons, List.length_nil, List.length_map, List.length_take, List.length_drop, List.length_replicate]; omega))⟩, (cur / 10, o8 (48 + cur % 10) :: s), ⟨?_, by simp only; omega⟩, by simp only; omega, rfl⟩
        rw [decP_step (by omega), List.append_assoc] at ha
        exact ha
  · cases hs
end Go.Proofs.YtlkaaoekbmegkaaGreatDoor
