import Derived.Test.YtlkaaoekbmegkaaGreatDoorQArgs
import Derived.WideKeyArr2
import Derived.Test.YtlkaaoekbmegkaaGreatDoorQFCom3
import Derived.Test.YtlkaaoekbmegkaaGreatDoorQFRCom3
/- An argument that is an array of bytes, opened. -/
namespace Go.Proofs.YtlkaaoekbmegkaaGreatDoor
set_option linter.all false
open Go.RowKit Go.ChangeShapes Go.WideShapes Go.ChangeAt Go.Deep

section
variable {H : Type} {enc : TypeId × Value → H} {P : Program} {w : World} {base : Nat} {spare : Nat → Bool} {held : Bool}
theorem cells_u8 {e : TypeId} {m c : Nat} {cs : List Value} (he : P.underlying e = some (.int .u8)) : ∀ (L : List Nat) (xs : List (DataW H × List MemPlace)),
    L.mapM (fun i => DataW.trod enc P w base spare held m e ((cs.drop (i * c)).take c)) = some xs → (∀ i ∈ L, ∃ a : Int, (cs.drop (i * c)).take c = [.int .u8 a] ∧ 0 ≤ a ∧ a ≤ 255) ∧ ∀ x ∈ xs, x.2 = []
  | [], xs, h => ⟨fun i hi => by simp at hi, fun x hx => by simp at h; subst h; simp at hx⟩
  | i :: L, xs, h => by
    rw [List.mapM_cons] at h
    simp only [bind, Option.bind_eq_some_iff, pure, Option.some.injEq] at h
    obtain ⟨y, hy, ys, hys, rfl⟩ := h
    obtain ⟨ih1, ih2⟩ := cells_u8 he L ys hys
    obtain ⟨a, ea, rfl, wa⟩ := DataW.trod_int he hy
    have h4 : (Lit.int .u8 a).wf = true := wa
    simp [Lit.wf, IntKind.min, IntKind.max, IntKind.signed, IntKind.bits] at h4
    refine ⟨fun j hj => ?_, fun x hx => ?_⟩
    · rcases List.mem_cons.1 hj with rfl | hj
      · exact ⟨a, ea, h4⟩
      · exact ih1 j hj
    · rcases List.mem_cons.1 hx with rfl | hx
      · rfl
      · exact ih2 x hx

theorem open_id {r : Reach} {b0 n : Nat} {t e : TypeId} {v : Value} {d : DataW H} {ps : List MemPlace} (ht : P.underlying t = some (.array n e)) (he : P.underlying e = some (.int .u8)) (hc : P.cellsOf e = 1) (hn : P.cellsOf t = n)
    (hval : Value.okWide P w r b0 t v) (hd : DataW.Trod enc P w base spare held t v d ps) : ∃ l : List UInt8, v = .agg (l.map U).toArray ∧ l.length = n ∧ ps = [] := by
  simp only [Value.okWide, ht] at hval
  obtain ⟨cs, rfl, h2, _⟩ := hval
  rw [hn] at h2
  obtain ⟨fuel, hf⟩ := hd
  cases fuel with
  | zero => simp [DataW.trod] at hf
  | succ m =>
    rw [DataW.trod_step] at hf
    unfold DataW.trodStep at hf
    simp only [ht, Value.cells] at hf
    rw [if_pos (by rw [hn]; simpa using h2)] at hf
    simp only [Option.map_eq_some_iff] at hf
    obtain ⟨ys, hy, e1⟩ := hf
    rw [hc] at hy
    obtain ⟨h3, h4⟩ := cells_u8 he _ ys hy
    obtain ⟨l, hl, hp⟩ := list_of n (fun i (u : UInt8) => cs[i]? = some (U u)) (fun i hi => by
      obtain ⟨a, ha, h0, h1⟩ := h3 i (by simpa using hi)
      refine ⟨UInt8.ofNat a.toNat, ?_⟩
      have hlt : i < cs.toList.length := by simp; omega
      rw [Nat.mul_one, List.drop_eq_getElem_cons hlt] at ha
      simp at ha
      rw [Array.getElem?_eq_getElem (by omega), ha]
      congr 1
      unfold U
      congr 1
      simp
      omega)
    simp only [Prod.mk.injEq] at e1
    refine ⟨l, ?_, hl, ?_⟩
    · congr 1
      apply Array.ext
      · simp; omega
      · intro i h5 h6
        have := hp i (by omega)
        rw [Array.getElem?_eq_getElem h5, Option.some.injEq] at this
        rw [this]; simp
    · rw [← e1.2]
      simp only [List.flatMap_eq_nil_iff]
      exact fun x hx => h4 x hx
end
end Go.Proofs.YtlkaaoekbmegkaaGreatDoor
/- An argument that is a tag (twenty bytes, number, text, person, text), opened. -/
namespace Go.Proofs.YtlkaaoekbmegkaaGreatDoor
set_option linter.all false
open Go.RowKit Go.ChangeShapes Go.WideShapes Go.ChangeAt Go.Deep
section
variable {H : Type} {enc : TypeId × Value → H} {P : Program} {w : World} {base : Nat} {spare : Nat → Bool} {held : Bool}
theorem trod_id {ta e : TypeId} {fuel : Nat} {cs : List Value} {x : DataW H × List MemPlace} (ha : P.underlying ta = some (.array 20 e)) (he : P.underlying e = some (.int .u8)) (hce : P.cellsOf e = 1) (hca : P.cellsOf ta = 20)
    (h : DataW.trod enc P w base spare held fuel ta cs = some x) : ∃ l : List UInt8, cs = l.map U ∧ l.length = 20 := by
  obtain ⟨xs, m, _, _, hl, hn, hel⟩ := DataW.trod_array ha h
  rw [hca] at hl
  obtain ⟨l, hlen, hp⟩ := list_of 20 (fun i (u : UInt8) => cs[i]? = some (U u)) (fun i hi => by
    have h5 := hel i hi
    rw [hce] at h5
    obtain ⟨x, hxj⟩ : ∃ x, xs[i]? = some x := ⟨xs[i]'(by omega), List.getElem?_eq_getElem (by omega)⟩
    rw [hxj] at h5
    obtain ⟨a, ea, _, wa⟩ := DataW.trod_int he h5
    have h4 : (Lit.int .u8 a).wf = true := wa
    simp [Lit.wf, IntKind.min, IntKind.max, IntKind.signed, IntKind.bits] at h4
    refine ⟨UInt8.ofNat a.toNat, ?_⟩
    have e4 := congrArg (fun l => l[0]?) ea
    simp only [List.getElem?_take, List.getElem?_drop, List.getElem?_cons_zero] at e4
    simp only [Nat.mul_one, Nat.add_zero] at e4
    rw [if_pos (by omega)] at e4
    rw [e4]
    unfold U
    congr 2
    simp
    omega)
  refine ⟨l, ?_, hlen⟩
  apply List.ext_getElem?
  intro i
  by_cases hi : i < 20
  · rw [hp i (by omega), List.getElem?_map, List.getElem?_eq_getElem (by omega)]; rfl
  · rw [List.getElem?_eq_none (by omega), List.getElem?_eq_none (by rw [List.length_map]; omega)]
theorem trod_struct5 {t : TypeId} {f0 f1 f2 f3 f4 : Field} {fuel : Nat} {cs : List Value} {x : DataW H × List MemPlace} (ht : P.underlying t = some (.struct #[f0, f1, f2, f3, f4])) (h : DataW.trod enc P w base spare held fuel t cs = some x) :
    ∃ y0 y1 y2 y3 y4 n, DataW.trod enc P w base spare held n f0.type ((cs.drop f0.offset).take (P.cellsOf f0.type)) = some y0 ∧
      DataW.trod enc P w base spare held n f1.type ((cs.drop f1.offset).take (P.cellsOf f1.type)) = some y1 ∧ DataW.trod enc P w base spare held n f2.type ((cs.drop f2.offset).take (P.cellsOf f2.type)) = some y2 ∧
      DataW.trod enc P w base spare held n f3.type ((cs.drop f3.offset).take (P.cellsOf f3.type)) = some y3 ∧ DataW.trod enc P w base spare held n f4.type ((cs.drop f4.offset).take (P.cellsOf f4.type)) = some y4 := by
  obtain ⟨xs, n, _, rfl, hl, hlen, hf⟩ := DataW.trod_struct ht h
  match xs, hlen with
  | [y0, y1, y2, y3, y4], _ => exact ⟨y0, y1, y2, y3, y4, n, by simpa using hf 0 f0 rfl, by simpa using hf 1 f1 rfl, by simpa using hf 2 f2 rfl, by simpa using hf 3 f3 rfl, by simpa using hf 4 f4 rfl⟩
theorem trod_who {t : TypeId} {f0 f1 f2 f3 : Field} {fuel : Nat} {cs : List Value} {x : DataW H × List MemPlace} (ht : P.underlying t = some (.struct #[f0, f1, f2, f3])) (o0 : f0.offset = 0) (o1 : f1.offset = 1) (o2 : f2.offset = 2) (o3 : f3.offset = 3)
    (t0 : P.underlying f0.type = some .string) (t1 : P.underlying f1.type = some .string) (t2 : P.underlying f2.type = some (.int .i64)) (t3 : P.underlying f3.type = some .string)
    (c0 : P.cellsOf f0.type = 1) (c1 : P.cellsOf f1.type = 1) (c2 : P.cellsOf f2.type = 1) (c3 : P.cellsOf f3.type = 1) (hct : P.cellsOf t = 4)
    (hf : DataW.trod enc P w base spare held fuel t cs = some x) : ∃ (n m : List UInt8) (i : Int) (z : List UInt8), cs = whoC n m i z ∧ n.length ≤ maxLen ∧ m.length ≤ maxLen ∧ z.length ≤ maxLen ∧ inI i := by
  obtain ⟨y0, y1, y2, y3, n, _, hl, k0, k1, k2, k3⟩ := Go.Joins.trod_struct4 ht hf
  rw [hct] at hl
  obtain ⟨a0, a1, a2, a3, ha⟩ := Go.Joins.array4 (cs := cs.toArray) (by simpa using hl)
  obtain rfl : cs = [a0, a1, a2, a3] := by simpa using congrArg Array.toList ha
  rw [o0, c0] at k0
  rw [o1, c1] at k1
  rw [o2, c2] at k2
  rw [o3, c3] at k3
  obtain ⟨s0, e0, _, l0⟩ := DataW.trod_string t0 k0
  obtain ⟨s1, e1, _, l1⟩ := DataW.trod_string t1 k1
  obtain ⟨i, e2, _, wi⟩ := DataW.trod_int t2 k2
  obtain ⟨s3, e3, _, l3⟩ := DataW.trod_string t3 k3
  simp at e0 e1 e2 e3
  subst e0 e1 e2 e3
  obtain ⟨⟨s0⟩⟩ := s0
  obtain ⟨⟨s1⟩⟩ := s1
  obtain ⟨⟨s3⟩⟩ := s3
  refine ⟨s0, s1, i, s3, rfl, by simpa [ByteArray.size] using l0, by simpa [ByteArray.size] using l1, by simpa [ByteArray.size] using l3, ?_⟩
  have h4 : (Lit.int .i64 i).wf = true := wi
  simp [Lit.wf, IntKind.min, IntKind.max, IntKind.signed, IntKind.bits] at h4
  unfold inI
  omega
theorem drop_split {α : Type} (c : List α) (a k : Nat) : c.drop a = (c.drop a).take k ++ c.drop (a + k) := by
  rw [← List.drop_drop, List.take_append_drop]
def tagC (o : List UInt8) (k : Int) (n wn wm : List UInt8) (wt : Int) (wz m : List UInt8) : List Value := o.map U ++ ([.int .i64 k] ++ ([.string ⟨n.toArray⟩] ++ (whoC wn wm wt wz ++ [.string ⟨m.toArray⟩])))
theorem open_tag {r : Reach} {b0 : Nat} {t ta e tw : TypeId} {f0 f1 f2 f3 f4 g0 g1 g2 g3 : Field} {v : Value} {d : DataW H} {ps : List MemPlace} (ht : P.underlying t = some (.struct #[f0, f1, f2, f3, f4])) (o0 : f0.offset = 0) (o1 : f1.offset = 20) (o2 : f2.offset = 21) (o3 : f3.offset = 22) (o4 : f4.offset = 26)
    (hta : f0.type = ta) (htw : f3.type = tw)
    (ha : P.underlying ta = some (.array 20 e)) (he : P.underlying e = some (.int .u8)) (hw : P.underlying tw = some (.struct #[g0, g1, g2, g3])) (q0 : g0.offset = 0) (q1 : g1.offset = 1) (q2 : g2.offset = 2) (q3 : g3.offset = 3)
    (s1 : P.underlying f1.type = some (.int .i64)) (s2 : P.underlying f2.type = some .string) (s4 : P.underlying f4.type = some .string)
    (t0 : P.underlying g0.type = some .string) (t1 : P.underlying g1.type = some .string) (t2 : P.underlying g2.type = some (.int .i64)) (t3 : P.underlying g3.type = some .string)
    (hce : P.cellsOf e = 1) (hca : P.cellsOf ta = 20) (hcw : P.cellsOf tw = 4) (hct : P.cellsOf t = 27) (d1 : P.cellsOf f1.type = 1) (d2 : P.cellsOf f2.type = 1) (d4 : P.cellsOf f4.type = 1)
    (c0 : P.cellsOf g0.type = 1) (c1 : P.cellsOf g1.type = 1) (c2 : P.cellsOf g2.type = 1) (c3 : P.cellsOf g3.type = 1)
    (hval : Value.okWide P w r b0 t v) (hd : DataW.Trod enc P w base spare held t v d ps) : ∃ (o : List UInt8) (k : Int) (n wn wm : List UInt8) (wt : Int) (wz m : List UInt8), v = .agg (tagC o k n wn wm wt wz m).toArray ∧ o.length = 20 ∧ n.length ≤ maxLen ∧ wn.length ≤ maxLen ∧ wm.length ≤ maxLen ∧ inI wt ∧ wz.length ≤ maxLen ∧ m.length ≤ maxLen := by
  simp only [Value.okWide, ht] at hval
  obtain ⟨cs, rfl, h2, _⟩ := hval
  rw [hct] at h2
  obtain ⟨fuel, hf⟩ := hd
  obtain ⟨y0, y1, y2, y3, y4, n, k0, k1, k2, k3, k4⟩ := trod_struct5 ht hf
  simp only [Value.cells] at k0 k1 k2 k3 k4
  obtain ⟨c⟩ := cs
  simp only at h2 k0 k1 k2 k3 k4
  have hc : c.length = 27 := by simpa using h2
  rw [o0, hta, hca] at k0
  rw [o1, d1] at k1
  rw [o2, d2] at k2
  rw [o3, htw, hcw] at k3
  rw [o4, d4] at k4
  obtain ⟨o, e0, l0⟩ := trod_id ha he hce hca k0
  obtain ⟨i, e1, _, _⟩ := DataW.trod_int s1 k1
  obtain ⟨⟨⟨n'⟩⟩, e2, _, l2⟩ := DataW.trod_string s2 k2
  obtain ⟨wn, wm, wt, wz, e3, l3⟩ := trod_who hw q0 q1 q2 q3 t0 t1 t2 t3 c0 c1 c2 c3 hcw k3
  obtain ⟨⟨⟨m'⟩⟩, e4, _, l4⟩ := DataW.trod_string s4 k4
  have hsp : c = tagC o i n' wn wm wt wz m' := by
    unfold tagC
    rw [← e0, ← e1, ← e2, ← e3, ← e4]
    conv => lhs; rw [← List.drop_zero (l := c), drop_split c 0 20, Nat.zero_add, drop_split c 20 1, drop_split c 21 1, drop_split c 22 4, drop_split c 26 1, List.drop_of_length_le (i := 26 + 1) (by omega)]
    simp
  subst hsp
  exact ⟨o, i, n', wn, wm, wt, wz, m', rfl, l0, by simpa [ByteArray.size] using l2, l3.1, l3.2.1, l3.2.2.2, l3.2.2.1, by simpa [ByteArray.size] using l4⟩
theorem vl_tag {S : Nat → Prop} {ρ : Rho} (o : List UInt8) (k : Int) (n wn wm : List UInt8) (wt : Int) (wz m : List UInt8) (hl : o.length = 20) : Vl w S ρ (.agg [(20, .blob (o.map U)), (1, .int .i64 k), (1, .str n), (1, .str wn), (1, .str wm), (1, .int .i64 wt), (1, .str wz), (1, .str m)]) (.agg (tagC o k n wn wm wt wz m).toArray) :=
  Vl.agg' (Css.cs ⟨o.map U, _, rfl, by simpa using hl, .blob _ (fun u hu => by obtain ⟨x, _, rfl⟩ := List.mem_map.1 hu; rfl), [.int .i64 k], _, rfl, rfl, .int .i64 k, [.string ⟨n.toArray⟩], _, rfl, rfl, .str n,
    [.string ⟨wn.toArray⟩], _, rfl, rfl, .str wn, [.string ⟨wm.toArray⟩], _, rfl, rfl, .str wm, [.int .i64 wt], _, rfl, rfl, .int .i64 wt, [.string ⟨wz.toArray⟩], _, rfl, rfl, .str wz, [.string ⟨m.toArray⟩], [], rfl, rfl, .str m, rfl⟩)
end
end Go.Proofs.YtlkaaoekbmegkaaGreatDoor
/- The law of tags. -/
namespace Go.Proofs.YtlkaaoekbmegkaaGreatDoor
set_option linter.all false
open Go.RowKit
open Go.Lib (index hasPrefix cut indexAny itoa decDigits)
def ltoTagS : Spec := fun xs hp => match xs, hp with
  | [.agg [(20, .blob o), (1, .int .i64 k), (1, .str n), (1, .str wn), (1, .str wm), (1, .int .i64 wt), (1, .str wz), (1, .str m)]], [] =>
    some ⟨.agg [(20, .blob o), (1, .int .i64 k), (1, .str (n.take 200)), (1, .str (wn.take 200)), (1, .str (wm.take 200)), (1, .int .i64 wt), (1, .str (wz.take 200)), (1, .str (m.take 500))], [], o.length = 20 ∧ n.length ≤ 9223372036854775807 ∧ m.length ≤ 9223372036854775807 ∧ wn.length ≤ 9223372036854775807 ∧ wm.length ≤ 9223372036854775807 ∧ wz.length ≤ 9223372036854775807⟩
  | _, _ => none
theorem ltoTag_ok : FnOk Tryz.prog 26 ltoTagS := by
  refine fn_slim2 Tryz.func26 s_ltoTag (Φ := phiL [(14, [], lwhoS)]) (phi_cons lwho_ok (by kernel_rfl) phi_nil) ?_
  intro xs hp r hs hp'
  unfold ltoTagS at hs
  split at hs
  · injection hs with hs; subst hs
    rename_i o k n wn wm wt wz m
    obtain ⟨p1, p2, p3, p4, p5, p6⟩ := hp'
    refine ⟨len_le (by kernel_rfl), ?_⟩
    have t1 := take_min n 200
    have t2 := take_min m 500
    simp only [c_ltoTag, r_ltoTag, lwhoS, go_sem, Nat.reduceDiv, Nat.reduceMod, ↓reduceIte, Nat.reduceEqDiff, Nat.reduceBEq, Nat.reduceSub, Nat.reduceLT, Nat.reduceAdd, Nat.reduceLeDiff, reduceCtorEq, Int.reduceEq, Int.reduceNe, Int.reduceLT, Int.reduceLE, Int.reduceToNat]
    rw [← t1, ← t2]
    repeat' apply And.intro
    all_goals first | omega | rfl | skip
  · cases hs
def lofTagS : Spec := fun xs hp => match xs, hp with
  | [.agg [(20, .blob o), (1, .int .i64 k), (1, .str n), (1, .str wn), (1, .str wm), (1, .int .i64 wt), (1, .str wz), (1, .str m)]], [] =>
    some ⟨.agg [(20, .blob o), (1, .int .i64 k), (1, .str n), (1, .str wn), (1, .str wm), (1, .int .i64 wt), (1, .str wz), (1, .str m)], [], o.length = 20⟩
  | _, _ => none
theorem lofTag_ok : FnOk Tryz.prog 25 lofTagS := by
  refine fn_slim2 Tryz.func25 s_lofTag (Φ := phiL [(17, [], lwhoOfS)]) (phi_cons lwhoOf_ok (by kernel_rfl) phi_nil) ?_
  intro xs hp r hs hp'
  unfold lofTagS at hs
  split at hs
  · injection hs with hs; subst hs
    rename_i o k n wn wm wt wz m
    have p1 : o.length = 20 := hp'
    refine ⟨len_le (by kernel_rfl), ?_⟩
    simp only [c_lofTag, r_lofTag, lwhoOfS, go_sem, Nat.reduceDiv, Nat.reduceMod, ↓reduceIte, Nat.reduceEqDiff, Nat.reduceBEq, Nat.reduceSub, Nat.reduceLT, Nat.reduceAdd, Nat.reduceLeDiff, reduceCtorEq, Int.reduceEq, Int.reduceNe, Int.reduceLT, Int.reduceLE, Int.reduceToNat]
    try exact p1
  · cases hs
noncomputable def ltagsS : Spec := fun xs hp => match xs, hp with
  | [.agg [(20, .blob o), (1, .int .i64 k), (1, .str n), (1, .str wn), (1, .str wm), (1, .int .i64 wt), (1, .str wz), (1, .str m)]], [] =>
    some ⟨.bool true, [], o = (unV o).map U ∧ (unV o).length = 20 ∧ n.length ≤ 9223372036854775807 ∧ m.length ≤ 9223372036854775807 ∧ wn.length ≤ 9223372036854775807 ∧ wm.length ≤ 9223372036854775807 ∧ wz.length ≤ 9223372036854775807 ∧ inI wt⟩
  | _, _ => none
noncomputable def phiTags : Phi := phiL [(26, [], ltoTagS), (25, [], lofTagS), (27, [], prtS), (28, [], rrtagS), (29, [], rprtS), (23, [], cpartS), (11, [], knownS)]
theorem phiTags_ok : PhiOk Tryz.prog phiTags := phi_cons ltoTag_ok (by kernel_rfl) (phi_cons lofTag_ok (by kernel_rfl) (phi_cons prt_ok (by kernel_rfl) (phi_cons rrtag_ok (by kernel_rfl) (phi_cons rprt_ok (by kernel_rfl) (phi_cons cpart_ok (by kernel_rfl) (phi_cons known11_ok (by kernel_rfl) phi_nil))))))
theorem phiTags_1 : phiTags 26 = some ([], ltoTagS) := rfl
theorem phiTags_2 : phiTags 25 = some ([], lofTagS) := rfl
theorem phiTags_3 : phiTags 27 = some ([], prtS) := rfl
theorem phiTags_4 : phiTags 28 = some ([], rrtagS) := rfl
theorem phiTags_5 : phiTags 29 = some ([], rprtS) := rfl
theorem phiTags_6 : phiTags 23 = some ([], cpartS) := rfl
theorem phiTags_7 : phiTags 11 = some ([], knownS) := rfl
theorem partR_t {b : List UInt8} {o : List UInt8} {k : Int} {n wn wm : List UInt8} {wt : Int} {wz m : List UInt8} (h : parBT11 b = true) (hv : parT11 b = ⟨o, k, n, ⟨wn, wm, wt, wz⟩, m⟩) (pr : Prop) :
    parRT11 (parT11 b) (parBT11 b) pr = some ⟨.tup [.agg [(20, .blob (o.map U)), (1, .int .i64 k), (1, .str n), (1, .str wn), (1, .str wm), (1, .int .i64 wt), (1, .str wz), (1, .str m)], .int .i64 0], [], pr⟩ := by
  unfold parRT11; rw [h, hv]; rfl
set_option maxHeartbeats 4000000 in
theorem ltags_ok : FnOk Tryz.prog 6 ltagsS := by
  refine fn_slim2 Tryz.func6 s_ltags phiTags_ok ?_
  intro xs hp r hs hp'
  unfold ltagsS at hs
  split at hs
  · injection hs with hs; subst hs
    rename_i o k n wn wm wt wz m
    obtain ⟨q1, p1, p2, p3, p4, p5, p6, p7⟩ := hp'
    generalize unV o = o at *
    subst q1
    refine ⟨len_le (by kernel_rfl), ?_⟩
    have hn : (n.take 200).length ≤ 200 := by rw [List.length_take]; omega
    have hm : (m.take 500).length ≤ 500 := by rw [List.length_take]; omega
    have h1 : (wn.take 200).length ≤ 200 := by rw [List.length_take]; omega
    have h2 : (wm.take 200).length ≤ 200 := by rw [List.length_take]; omega
    have h3 : (wz.take 200).length ≤ 200 := by rw [List.length_take]; omega
    have hsz : sizeOkT ⟨o, k, n.take 200, ⟨wn.take 200, wm.take 200, wt, wz.take 200⟩, m.take 500⟩ := ⟨p1, by simp only; omega, by simp only; omega, by simp only; omega⟩
    cases hr : rightT ⟨o, k, n.take 200, ⟨wn.take 200, wm.take 200, wt, wz.take 200⟩, m.take 500⟩ with
    | false =>
      have e : ∀ pr, prtR ⟨o, k, n.take 200, ⟨wn.take 200, wm.take 200, wt, wz.take 200⟩, m.take 500⟩ pr = some ⟨.tup [.con (.slice none 0 0), .int .i64 4], [], pr⟩ := fun pr => by unfold prtR; rw [hr]; rfl
      simp only [c_ltags, r_ltags, phiTags_1, phiTags_2, phiTags_3, phiTags_4, phiTags_5, phiTags_6, phiTags_7, ltoTagS, lofTagS, prtS, rrtagS, rprtS, cpartS, knownS, unV_U, unB_Bs, if_true, if_false, Bool.false_eq_true, e, hr, go_sem, Nat.reduceDiv, Nat.reduceMod, ↓reduceIte, Nat.reduceEqDiff, Nat.reduceBEq, Nat.reduceSub, Nat.reduceLT, Nat.reduceAdd, Nat.reduceLeDiff, reduceCtorEq, Int.reduceEq, Int.reduceNe, Int.reduceLT, Int.reduceLE, Int.reduceToNat]
      repeat' apply And.intro
      all_goals first | omega | rfl | exact hsz | trivial | (simp only [List.length_map]; omega) | skip
    | true =>
      obtain ⟨k1, k2⟩ := tag_body hr p1
      have e : ∀ pr, prtR ⟨o, k, n.take 200, ⟨wn.take 200, wm.take 200, wt, wz.take 200⟩, m.take 500⟩ pr = some ⟨.tup [.own 0 0, .int .i64 0], [.row 5 1 0 (Bs (bodyT ⟨o, k, n.take 200, ⟨wn.take 200, wm.take 200, wt, wz.take 200⟩, m.take 500⟩))], pr⟩ := fun pr => by unfold prtR; rw [hr]; rfl
      have hR := partR_t k1 k2
      have hw := (rightT_parts hr).1
      have hl := textW_len hw
      simp only at hl
      have hh := hexL_length o
      have hwl := wordL_len6 k
      have hbl : (bodyT ⟨o, k, n.take 200, ⟨wn.take 200, wm.take 200, wt, wz.take 200⟩, m.take 500⟩).length ≤ 10000 := by
        simp only [bodyT, tagL, List.length_append, List.length_cons, List.length_nil]; omega
      generalize hb : bodyT ⟨o, k, n.take 200, ⟨wn.take 200, wm.take 200, wt, wz.take 200⟩, m.take 500⟩ = b at *
      simp only [c_ltags, r_ltags, phiTags_1, phiTags_2, phiTags_3, phiTags_4, phiTags_5, phiTags_6, phiTags_7, ltoTagS, lofTagS, prtS, rrtagS, rprtS, cpartS, knownS, unV_U, unB_Bs, if_true, if_false, Bool.false_eq_true, e, hr, hR, hb, go_sem, Nat.reduceDiv, Nat.reduceMod, ↓reduceIte, Nat.reduceEqDiff, Nat.reduceBEq, Nat.reduceSub, Nat.reduceLT, Nat.reduceAdd, Nat.reduceLeDiff, reduceCtorEq, Int.reduceEq, Int.reduceNe, Int.reduceLT, Int.reduceLE, Int.reduceToNat]
      repeat' apply And.intro
      all_goals first | omega | rfl | exact hsz | trivial | exact fun x hx => flat_B _ x hx | exact p7 | exact p7.1 | exact p7.2 | (simp only [List.length_map]; omega) | skip
  · cases hs
theorem commitTags_walk {o : List UInt8} {k : Int} {n wn wm : List UInt8} {wt : Int} {wz m : List UInt8} (w : World) (w0 : o.length = 20 ∧ n.length ≤ maxLen ∧ wn.length ≤ maxLen ∧ wm.length ≤ maxLen ∧ inI wt ∧ wz.length ≤ maxLen ∧ m.length ≤ maxLen) (g : GlobOk w (fun b => b < w.heap.size)) :
    Calls Tryz.prog 6 #[.agg (tagC o k n wn wm wt wz m).toArray] w fun e w' => e = .returned (.bool true) ∧ Below w.heap.size w w' := by
  obtain ⟨w1, w2, w3, w4, w5, w6, w7⟩ := w0
  exact ltags_ok.calls_bool (xs := [.agg [(20, .blob (o.map U)), (1, .int .i64 k), (1, .str n), (1, .str wn), (1, .str wm), (1, .int .i64 wt), (1, .str wz), (1, .str m)]]) rfl
    ⟨by rw [unV_U], by rw [unV_U]; exact w1, by simpa [maxLen] using w2, by simpa [maxLen] using w7, by simpa [maxLen] using w3, by simpa [maxLen] using w4, by simpa [maxLen] using w6, w5⟩ rfl
    (args_cons (vl_tag o k n wn wm wt wz m w1) (args_nil g))
end Go.Proofs.YtlkaaoekbmegkaaGreatDoor
