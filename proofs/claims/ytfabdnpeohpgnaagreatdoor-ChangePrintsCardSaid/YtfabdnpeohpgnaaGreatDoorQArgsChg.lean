import Derived.Test.YtfabdnpeohpgnaaGreatDoorQFGPar
import Derived.Test.YtfabdnpeohpgnaaGreatDoorQT2p
namespace Go.Proofs.YtfabdnpeohpgnaaGreatDoor
set_option linter.all false
open Go.RowKit Go.ChangeShapes Go.WideShapes Go.ChangeAt Go.Deep
def chgPs (m u : List UInt8) (t z : Int) (E F : AV) (d : List UInt8) : List (Nat × AV) := [(20, .blob (m.map U)), (1, .str u), (1, .int .i64 t), (1, .int .i64 z), (1, E), (1, F), (1, .str d)]
def chgAV (c : ChgL) : AV := .agg (chgPs c.man c.user c.time c.zone (.sl 2 (c.extras.map exV)) (.sl 1 (c.files.map AV.str)) c.desc)
def chgAB (c : ChgL) : Prop := c.man.length = 20 ∧ c.user.length ≤ 9223372036854775807 ∧ inI c.time ∧ inI c.zone ∧ c.extras.length ≤ 9223372036854775807 ∧ (∀ x ∈ c.extras, x.1.length ≤ 9223372036854775807 ∧ x.2.length ≤ 9223372036854775807) ∧
  c.files.length ≤ 9223372036854775807 ∧ (∀ f ∈ c.files, f.length ≤ 9223372036854775807) ∧ c.desc.length ≤ 9223372036854775807
def ChgArg (w : World) (v : Value) : Prop := ∃ c : ChgL, (∀ ρ, Vl1 w (fun b => b < w.heap.size) ρ (chgAV c) v) ∧ chgAB c
section
variable {H : Type} {enc : TypeId × Value → H} {P : Program} {w : World} {base : Nat} {spare : Nat → Bool} {held : Bool}
theorem trod_struct7 {t : TypeId} {f0 f1 f2 f3 f4 f5 f6 : Field} {fuel : Nat} {cs : List Value} {x : DataW H × List MemPlace} (ht : P.underlying t = some (.struct #[f0, f1, f2, f3, f4, f5, f6])) (h : DataW.trod enc P w base spare held fuel t cs = some x) :
    ∃ y0 y1 y2 y3 y4 y5 y6 n, DataW.trod enc P w base spare held n f0.type ((cs.drop f0.offset).take (P.cellsOf f0.type)) = some y0 ∧
      DataW.trod enc P w base spare held n f1.type ((cs.drop f1.offset).take (P.cellsOf f1.type)) = some y1 ∧ DataW.trod enc P w base spare held n f2.type ((cs.drop f2.offset).take (P.cellsOf f2.type)) = some y2 ∧
      DataW.trod enc P w base spare held n f3.type ((cs.drop f3.offset).take (P.cellsOf f3.type)) = some y3 ∧ DataW.trod enc P w base spare held n f4.type ((cs.drop f4.offset).take (P.cellsOf f4.type)) = some y4 ∧
      DataW.trod enc P w base spare held n f5.type ((cs.drop f5.offset).take (P.cellsOf f5.type)) = some y5 ∧ DataW.trod enc P w base spare held n f6.type ((cs.drop f6.offset).take (P.cellsOf f6.type)) = some y6 := by
  obtain ⟨xs, n, _, rfl, hl, hlen, hf⟩ := DataW.trod_struct ht h
  match xs, hlen with
  | [y0, y1, y2, y3, y4, y5, y6], _ => exact ⟨y0, y1, y2, y3, y4, y5, y6, n, by simpa using hf 0 f0 rfl, by simpa using hf 1 f1 rfl, by simpa using hf 2 f2 rfl, by simpa using hf 3 f3 rfl, by simpa using hf 4 f4 rfl, by simpa using hf 5 f5 rfl, by simpa using hf 6 f6 rfl⟩
theorem trod_int1 {t : TypeId} {fuel : Nat} {cs : List Value} {x : DataW H × List MemPlace} (ht : P.underlying t = some (.int .i64)) (h : DataW.trod enc P w base spare held fuel t cs = some x) : ∃ i : Int, cs = [.int .i64 i] ∧ inI i := by
  obtain ⟨i, e, _, wi⟩ := DataW.trod_int ht h
  refine ⟨i, e, ?_⟩
  have h4 : (Lit.int .i64 i).wf = true := wi
  simp [Lit.wf, IntKind.min, IntKind.max, IntKind.signed, IntKind.bits] at h4
  unfold inI
  omega
theorem trod_str1 {t : TypeId} {fuel : Nat} {cs : List Value} {x : DataW H × List MemPlace} (ht : P.underlying t = some .string) (h : DataW.trod enc P w base spare held fuel t cs = some x) : ∃ l : List UInt8, cs = [.string ⟨l.toArray⟩] ∧ l.length ≤ 9223372036854775807 := by
  obtain ⟨⟨⟨l⟩⟩, e, _, hl⟩ := DataW.trod_string ht h
  exact ⟨l, e, by simpa [ByteArray.size, maxLen] using hl⟩
theorem open_chg {r : Reach} {b0 : Nat} {t ta e tx te tf ts : TypeId} {f0 f1 f2 f3 f4 f5 f6 h0 h1 : Field} {v : Value} {d : DataW H} {ps : List MemPlace} (ht : P.underlying t = some (.struct #[f0, f1, f2, f3, f4, f5, f6]))
    (o0 : f0.offset = 0) (o1 : f1.offset = 20) (o2 : f2.offset = 21) (o3 : f3.offset = 22) (o4 : f4.offset = 23) (o5 : f5.offset = 24) (o6 : f6.offset = 25) (hta : f0.type = ta) (htx : f4.type = tx) (htf : f5.type = tf)
    (ha : P.underlying ta = some (.array 20 e)) (he : P.underlying e = some (.int .u8)) (hx : P.underlying tx = some (.slice te)) (hex : P.underlying te = some (.struct #[h0, h1])) (q0 : h0.offset = 0) (q1 : h1.offset = 1) (hf : P.underlying tf = some (.slice ts)) (hs : P.underlying ts = some .string)
    (s1 : P.underlying f1.type = some .string) (s2 : P.underlying f2.type = some (.int .i64)) (s3 : P.underlying f3.type = some (.int .i64)) (s6 : P.underlying f6.type = some .string) (u0 : P.underlying h0.type = some .string) (u1 : P.underlying h1.type = some .string)
    (hce : P.cellsOf e = 1) (hca : P.cellsOf ta = 20) (hcx : P.cellsOf te = 2) (hcs : P.cellsOf ts = 1) (hct : P.cellsOf t = 26) (d1 : P.cellsOf f1.type = 1) (d2 : P.cellsOf f2.type = 1) (d3 : P.cellsOf f3.type = 1) (d4 : P.cellsOf tx = 1) (d5 : P.cellsOf tf = 1) (d6 : P.cellsOf f6.type = 1)
    (b0' : P.cellsOf h0.type = 1) (b1' : P.cellsOf h1.type = 1)
    (hval : Value.okWide P w r b0 t v) (hd : DataW.Trod enc P w base spare held t v d ps) : ChgArg w v := by
  simp only [Value.okWide, ht] at hval
  obtain ⟨cs, rfl, z2, _⟩ := hval
  rw [hct] at z2
  obtain ⟨fuel, hf0⟩ := hd
  obtain ⟨y0, y1, y2, y3, y4, y5, y6, n, k0, k1, k2, k3, k4, k5, k6⟩ := trod_struct7 ht hf0
  simp only [Value.cells] at k0 k1 k2 k3 k4 k5 k6
  obtain ⟨c⟩ := cs
  simp only at z2 k0 k1 k2 k3 k4 k5 k6
  have hc : c.length = 26 := by simpa using z2
  rw [o0, hta, hca] at k0
  rw [o1, d1] at k1
  rw [o2, d2] at k2
  rw [o3, d3] at k3
  rw [o4, htx, d4] at k4
  rw [o5, htf, d5] at k5
  rw [o6, d6] at k6
  obtain ⟨o, e0, l0⟩ := trod_id ha he hce hca k0
  obtain ⟨us, e1, l1⟩ := trod_str1 s1 k1
  obtain ⟨i2, e2, l2⟩ := trod_int1 s2 k2
  obtain ⟨i3, e3, l3⟩ := trod_int1 s3 k3
  obtain ⟨ds, e6, l6⟩ := trod_str1 s6 k6
  obtain ⟨v4, xl, e4, j4, n4, m4⟩ := open_sl (S := fun b => b < w.heap.size) (ρ := rho0) (fun _ h => h) hx hcx (by decide) exV (fun a => a.1.length ≤ 9223372036854775807 ∧ a.2.length ≤ 9223372036854775807) (fun fuel cs x h => trod_ex hex q0 q1 u0 u1 b0' b1' hcx h) k4
  obtain ⟨v5, fl, e5, j5, n5, m5⟩ := open_sl (S := fun b => b < w.heap.size) (ρ := rho0) (fun _ h => h) hf hcs (by decide) AV.str (fun a => a.length ≤ 9223372036854775807) (fun fuel cs x h => by
    obtain ⟨l, rfl, hl⟩ := trod_str1 hs h
    exact ⟨l, .str l, rfl, hl⟩) k5
  have hsp : c = o.map U ++ ([.string ⟨us.toArray⟩] ++ ([.int .i64 i2] ++ ([.int .i64 i3] ++ ([v4] ++ ([v5] ++ [.string ⟨ds.toArray⟩]))))) := by
    rw [← e0, ← e1, ← e2, ← e3, ← e4, ← e5, ← e6]
    conv => lhs; rw [← List.drop_zero (l := c), drop_split c 0 20, Nat.zero_add, drop_split c 20 1, drop_split c 21 1, drop_split c 22 1, drop_split c 23 1, drop_split c 24 1, drop_split c 25 1, List.drop_of_length_le (i := 25 + 1) (by omega)]
    simp
  subst hsp
  refine ⟨⟨o, us, i2, i3, xl, fl, ds⟩, fun ρ => ?_, l0, l1, l2, l3, n4, m4, n5, m5, l6⟩
  have g4 : Cs w (fun b => b < w.heap.size) ρ (.sl 2 (xl.map exV)) [v4] := j4.ext (fun _ _ => rfl) (fun _ h => h) (fun _ _ _ h => by cases h)
  have g5 : Cs w (fun b => b < w.heap.size) ρ (.sl 1 (fl.map AV.str)) [v5] := j5.ext (fun _ _ => rfl) (fun _ h => h) (fun _ _ _ h => by cases h)
  refine .inr ⟨_, ?_, rfl⟩
  exact Css.cs ⟨o.map U, _, rfl, by simpa using l0, .blob _ (fun u hu => by obtain ⟨x, _, rfl⟩ := List.mem_map.1 hu; rfl), [.string ⟨us.toArray⟩], _, rfl, rfl, .str us, [.int .i64 i2], _, rfl, rfl, .int .i64 i2, [.int .i64 i3], _, rfl, rfl, .int .i64 i3,
    [v4], _, rfl, rfl, g4, [v5], _, rfl, rfl, g5, [.string ⟨ds.toArray⟩], [], rfl, rfl, .str ds, rfl⟩
end
end Go.Proofs.YtfabdnpeohpgnaaGreatDoor
namespace Go.Proofs.YtfabdnpeohpgnaaGreatDoor
set_option linter.all false
open Go.RowKit
open Go.Lib (itoa)
noncomputable def lgprintsS : Spec := fun xs hp => match xs, hp with
  | [.agg [(20, .blob m), (1, .str u), (1, .int .i64 t), (1, .int .i64 z), (1, .sl ke es), (1, .sl kf fs), (1, .str d)]], [] =>
    some ⟨.bool true, [], argG m ke es kf fs ∧ chgB9 ⟨unV m, u, t, z, es.map unEx, fs.map unS, d⟩⟩
  | _, _ => none
noncomputable def phiGPrints : Phi := phiL [(5, [], lgtoS), (6, [], lgofS), (7, [], gprnS), (8, [], rgrightS), (10, [], rgprnS), (11, [], rgsameS), (9, [], gknownS)]
theorem phiGPrints_ok : PhiOk Tryz.prog phiGPrints := phi_cons lgto_ok (by kernel_rfl) (phi_cons lgof_ok (by kernel_rfl) (phi_cons gprn_ok (by kernel_rfl) (phi_cons rgright_ok (by kernel_rfl) (phi_cons rgprn_ok (by kernel_rfl) (phi_cons rgsame_ok (by kernel_rfl) (phi_cons gknown_ok (by kernel_rfl) phi_nil))))))
theorem phiGPrints_1 : phiGPrints 5 = some ([], lgtoS) := rfl
theorem phiGPrints_2 : phiGPrints 6 = some ([], lgofS) := rfl
theorem phiGPrints_3 : phiGPrints 7 = some ([], gprnS) := rfl
theorem phiGPrints_4 : phiGPrints 8 = some ([], rgrightS) := rfl
theorem phiGPrints_5 : phiGPrints 10 = some ([], rgprnS) := rfl
theorem phiGPrints_6 : phiGPrints 11 = some ([], rgsameS) := rfl
theorem phiGPrints_7 : phiGPrints 9 = some ([], gknownS) := rfl
set_option maxHeartbeats 8000000 in
set_option maxRecDepth 8000 in
theorem lgprints_ok : FnOk Tryz.prog 3 lgprintsS := by
  refine fn_slim2 Tryz.func3 s_glprints phiGPrints_ok ?_
  intro xs hp r hs hp'
  unfold lgprintsS at hs
  split at hs
  · injection hs with hs; subst hs
    rename_i m u t z ke es kf fs d
    obtain ⟨q0, p1⟩ := hp'
    refine ⟨len_le (by kernel_rfl), ?_⟩
    generalize hc : (⟨unV m, u, t, z, es.map unEx, fs.map unS, d⟩ : ChgL) = c at *
    have hmx := max_of p1
    obtain ⟨z1, z2⟩ := toH_size c p1
    generalize hd : toH c = d at *
    obtain ⟨dm, du, dt, dz, de, df, dd⟩ := d
    obtain ⟨h1, h2, h3, h4, h5, h6, h7, h8, h9, h10, h11⟩ := z1
    have z1 : sizeH ⟨dm, du, dt, dz, de, df, dd⟩ := ⟨h1, h2, h3, h4, h5, h6, h7, h8, h9, h10, h11⟩
    simp only at h1 h2 h3 h4 h5 h6 h7 h8 h9 h10 h11
    have hex : ∀ x ∈ de, x.1.length ≤ 1000000000 := fun x hx => by have := (h5 x hx).1; omega
    have hzT := eq_true z1
    have hmT := eq_true hmx
    cases hr : rightH ⟨dm, du, dt, dz, de, df, dd⟩ with
    | false =>
      have e : ∀ pr, gprnR ⟨dm, du, dt, dz, de, df, dd⟩ pr = _ := fun pr => gprnR_f hr pr
      simp only [c_glprints, hzT, hmT, r_glprints, phiGPrints_1, phiGPrints_2, phiGPrints_3, phiGPrints_4, phiGPrints_5, phiGPrints_6, phiGPrints_7, lgtoS, lgofS, gprnS, rgrightS, rgprnS, rgsameS, gknownS, hc, hd, cOwn, zOwn, argG, argH, argS7, unV_U, unEx_map, unS_map, unB_Bs, sameH_self, if_true, if_false, Bool.false_eq_true, List.length_map, ↓flx_ex, ↓flx_st, ↓flx_by, e, hr, go_sem, Nat.reduceDiv, Nat.reduceMod, ↓reduceIte, Nat.reduceEqDiff, Nat.reduceBEq, Nat.reduceSub, Nat.reduceLT, Nat.reduceAdd, Nat.reduceLeDiff, reduceCtorEq, Int.reduceEq, Int.reduceNe, Int.reduceLT, Int.reduceLE, Int.reduceToNat]
      (repeat' apply And.intro); all_goals first | exact q0.1 | exact q0.2.1 | exact q0.2.2.1 | exact q0.2.2.2.1 | exact q0.2.2.2.2 | exact h1 | exact hmx.1 | exact .inl trivial | omega | exact hex | exact h6 | rfl | trivial | skip
    | true =>
      have e : ∀ pr, gprnR ⟨dm, du, dt, dz, de, df, dd⟩ pr = _ := fun pr => gprnR_t hr pr
      simp only [c_glprints, hzT, hmT, r_glprints, phiGPrints_1, phiGPrints_2, phiGPrints_3, phiGPrints_4, phiGPrints_5, phiGPrints_6, phiGPrints_7, lgtoS, lgofS, gprnS, rgrightS, rgprnS, rgsameS, gknownS, hc, hd, cOwn, zOwn, argG, argH, argS7, unV_U, unEx_map, unS_map, unB_Bs, sameH_self, if_true, if_false, Bool.false_eq_true, List.length_map, ↓flx_ex, ↓flx_st, ↓flx_by, e, hr, go_sem, Nat.reduceDiv, Nat.reduceMod, ↓reduceIte, Nat.reduceEqDiff, Nat.reduceBEq, Nat.reduceSub, Nat.reduceLT, Nat.reduceAdd, Nat.reduceLeDiff, reduceCtorEq, Int.reduceEq, Int.reduceNe, Int.reduceLT, Int.reduceLE, Int.reduceToNat]
      (repeat' apply And.intro); all_goals first | exact q0.1 | exact q0.2.1 | exact q0.2.2.1 | exact q0.2.2.2.1 | exact q0.2.2.2.2 | exact h1 | exact hmx.1 | exact .inl trivial | omega | exact hex | exact h6 | rfl | trivial | skip
  · cases hs
theorem changePrints_walk {v : Value} (w : World) (w0 : ChgArg w v) (g : GlobOk w (fun b => b < w.heap.size)) :
    Calls Tryz.prog 3 #[v] w fun e w' => e = .returned (.bool true) ∧ Below w.heap.size w w' := by
  obtain ⟨c, hv, hc⟩ := w0
  exact lgprints_ok.calls_bool (xs := [chgAV c]) rfl
    ⟨⟨by rw [unV_U], by rw [unEx_map], by rw [unS_map], .inl rfl, rfl⟩, by rw [unV_U, unEx_map, unS_map]; exact hc⟩ rfl
    (args_cons (hv _) (args_nil g))
end Go.Proofs.YtfabdnpeohpgnaaGreatDoor
