import Derived.Test.YtlkaaoekbmegkaaDoorQFCom3
import Derived.Test.YtlkaaoekbmegkaaDoorQArgs
import Derived.WideKeyArr2
import Derived.Test.YtlkaaoekbmegkaaDoorQAMS
import Derived.ChangeSame
import Derived.ChangeMaps5
import Derived.OpenShut
import Derived.Lib.SmallJoins
import Derived.Test.YtlkaaoekbmegkaaDoorQFCom6
import Derived.Test.YtlkaaoekbmegkaaDoorQComLaw
namespace Go.Proofs.YtlkaaoekbmegkaaDoor
set_option linter.all false
open Go.RowKit
def ex200 (x : ExL) : ExL := (x.1.take 200, x.2.take 200)
def toC (c : ComL) : ComL := ⟨c.tree, c.parents.take 20, cut200 c.author, cut200 c.committer, (c.extras.take 20).map ex200, c.message.take 500⟩
def comOwn (c : ComL) : AV := .agg (comPs c.tree (.own 0 c.parents.length) c.author c.committer (.own 1 c.extras.length) c.message)
def maxB (w : WhoL) : Prop := w.name.length ≤ 9223372036854775807 ∧ w.mail.length ≤ 9223372036854775807 ∧ w.zone.length ≤ 9223372036854775807
def maxC (c : ComL) : Prop := c.tree.length = 20 ∧ (∀ p ∈ c.parents, p.length = 20) ∧ c.parents.length ≤ 9223372036854775807 ∧ maxB c.author ∧ maxB c.committer ∧ c.extras.length ≤ 9223372036854775807 ∧
  (∀ x ∈ c.extras, x.1.length ≤ 9223372036854775807 ∧ x.2.length ≤ 9223372036854775807) ∧ c.message.length ≤ 9223372036854775807
def argC (t : List Value) (kq : Nat) (ps : List AV) (ke : Nat) (es : List AV) : Prop := t = (unV t).map U ∧ ps = (ps.map unId).map idAV ∧ es = (es.map unEx).map exV ∧ (kq = 20 ∨ ps = []) ∧ (ke = 2 ∨ es = [])
def ltoS : Spec := fun xs hp => match xs, hp with
  | [.agg [(20, .blob t), (1, .sl kq ps), (1, .str an), (1, .str am), (1, .int .i64 at'), (1, .str az), (1, .str cn), (1, .str cm), (1, .int .i64 ct), (1, .str cz), (1, .sl ke es), (1, .str m)]], [] =>
    some ⟨comOwn (toC ⟨unV t, ps.map unId, ⟨an, am, at', az⟩, ⟨cn, cm, ct, cz⟩, es.map unEx, m⟩),
      [.row 30 20 (toC ⟨unV t, ps.map unId, ⟨an, am, at', az⟩, ⟨cn, cm, ct, cz⟩, es.map unEx, m⟩).parents.length ((toC ⟨unV t, ps.map unId, ⟨an, am, at', az⟩, ⟨cn, cm, ct, cz⟩, es.map unEx, m⟩).parents.map idAV),
       .row 54 2 (toC ⟨unV t, ps.map unId, ⟨an, am, at', az⟩, ⟨cn, cm, ct, cz⟩, es.map unEx, m⟩).extras.length ((toC ⟨unV t, ps.map unId, ⟨an, am, at', az⟩, ⟨cn, cm, ct, cz⟩, es.map unEx, m⟩).extras.map exV)],
      argC t kq ps ke es ∧ maxC ⟨unV t, ps.map unId, ⟨an, am, at', az⟩, ⟨cn, cm, ct, cz⟩, es.map unEx, m⟩⟩
  | _, _ => none
theorem take_snoc {α : Type} (l : List α) {i : Nat} (h : i < l.length) : l.take i ++ [l[i]] = l.take (i + 1) := by
  rw [List.take_add_one, List.getElem?_eq_getElem h, Option.toList_some]
theorem map_take_succ {α β : Type} (f : α → β) (l : List α) {i : Nat} (h : i < l.length) : (l.take i).map f ++ [f l[i]] = (l.take (i + 1)).map f := by
  rw [← take_snoc l h, List.map_append, List.map_cons, List.map_nil]
set_option maxHeartbeats 4000000 in
theorem lto_ok : FnOk Tryd.prog 5 ltoS := by
  refine fn_slim2 Tryd.func5 s_lto (Φ := phiL [(12, [], lwhoS)]) (phi_cons lwho_ok (by kernel_rfl) phi_nil) ?_
  intro xs hp r hs hp'
  unfold ltoS at hs
  split at hs
  · injection hs with hs; subst hs
    rename_i t kq ps an am at' az cn cm ct cz ke es m
    obtain ⟨⟨q1, q2, q3, q4, q5⟩, l1, l2, l3, l4, l5, l6, l7, l8⟩ := hp'
    generalize unV t = t at *
    subst q1
    generalize ps.map unId = ps at *
    subst q2
    generalize es.map unEx = es at *
    subst q3
    simp only at l1 l2 l3 l4 l5 l6 l7 l8
    obtain ⟨u1, u2, u3⟩ := l4
    obtain ⟨u4, u5, u6⟩ := l5
    simp only at u1 u2 u3 u4 u5 u6
    refine ⟨len_le (by kernel_rfl), ?_⟩
    have tm := take_min m 500
    have tm : m.take (min (m.length : Int) 500).toNat = m.take 500 := tm
    simp only [c_lto, lwhoS, tm, go_sem, Nat.reduceDiv, Nat.reduceMod, ↓reduceIte, Nat.reduceEqDiff, Nat.reduceBEq, Nat.reduceSub, Nat.reduceLT, Nat.reduceAdd, Nat.reduceLeDiff, reduceCtorEq, Int.reduceEq, Int.reduceNe, Int.reduceLT, Int.reduceLE, Int.reduceToNat]
    refine ⟨⟨u1, u2, u3⟩, ⟨u4, u5, u6⟩, ⟨by omega, by omega⟩, l1, ?_⟩
    simp only [toC, cut200, comOwn]
    generalize hwa : (⟨an.take 200, am.take 200, at', az.take 200⟩ : WhoL) = wa
    generalize hwc : (⟨cn.take 200, cm.take 200, ct, cz.take 200⟩ : WhoL) = wc
    have ea1 : an.take 200 = wa.name := by rw [← hwa]
    have ea2 : am.take 200 = wa.mail := by rw [← hwa]
    have ea3 : at' = wa.time := by rw [← hwa]
    have ea4 : az.take 200 = wa.zone := by rw [← hwa]
    have ec1 : cn.take 200 = wc.name := by rw [← hwc]
    have ec2 : cm.take 200 = wc.mail := by rw [← hwc]
    have ec3 : ct = wc.time := by rw [← hwc]
    have ec4 : cz.take 200 = wc.zone := by rw [← hwc]
    refine loop2P [(4225, 30, 20)] [1, 2, 3, 4] [0, 1, 2, 3] (fun i : Nat => ⟨[(1, .ref 0 0 0), (2, .ref 1 0 0), (3, .ref 2 0 0), (4, .int .i64 (i : Int))],
      [.cells 28 [(20, .blob (t.map U)), (1, .sl kq (ps.map idAV)), (1, .str an), (1, .str am), (1, .int .i64 at'), (1, .str az), (1, .str cn), (1, .str cm), (1, .int .i64 ct), (1, .str cz), (1, .sl ke (es.map exV)), (1, .str m)], .cells 35 com0, .cells 35 (comPs t (.own 3 i) wa wc (.con (.slice none 0 0)) (m.take 500)), .row 30 20 i ((ps.take i).map idAV)]⟩)
      (fun i => i ≤ ps.length ∧ i ≤ 20) (fun i => 20 - i) 0 ?_ ⟨Nat.zero_le _, Nat.zero_le _⟩ ⟨rfl, by rfl⟩ (fun i hi R hR => ?_)
    · simp only [comPs, ← ea1, ← ea2, ← ea3, ← ea4, ← ec1, ← ec2, ← ec3, ← ec4]
      rfl
    obtain ⟨i1, i2⟩ := hi
    by_cases hil : i < ps.length ∧ i < 20
    · obtain ⟨hil, hi20⟩ := hil
      have c1 : decide ((i : Int) < (ps.length : Int)) = true := decide_eq_true (by omega)
      have c2 : decide ((i : Int) < 20) = true := decide_eq_true (by omega)
      have hk : kq = 20 := q4.resolve_right (by intro h; have := congrArg List.length h; simp at this; rw [this] at hil; simp at hil)
      subst hk
      have hget := getD_map idAV ps [] (.blob (List.replicate 20 (.int .u8 0))) hil
      have hga : ps.getD i [] = ps[i] := by simp [List.getD_eq_getElem?_getD, List.getElem?_eq_getElem hil]
      have hl1 := l2 ps[i] (List.getElem_mem _)
      have hlen : ((ps.take i).map idAV ++ [AV.blob ((ps[i]).map U)]).length = i + 1 := by simp; omega
      have hsn : (ps.take i).map idAV ++ [AV.blob ((ps[i]).map U)] = (ps.take (i + 1)).map idAV := map_take_succ idAV ps hil
      simp only [b_lto_0, comPs, com0, who0, c1, c2, hget, hga, idAV, hl1, Int.toNat_natCast, List.length_map, go_sem, Nat.reduceDiv, Nat.reduceMod, ↓reduceIte, Nat.reduceEqDiff, Nat.reduceBEq, Nat.reduceSub, Nat.reduceLT, Nat.reduceAdd, Nat.reduceLeDiff, reduceCtorEq, Int.reduceEq, Int.reduceNe, Int.reduceLT, Int.reduceLE, Int.reduceToNat]
      refine ⟨⟨by omega, by omega⟩, ⟨by rw [hlen]; (first | omega | (simp only [lenOk, bytesOk, inI, IntKind.bits, List.length_append, Bs_len, List.length_cons, List.length_nil, List.length_map, List.length_take, List.length_drop, List.length_replicate]; omega)), by rw [hlen]; (first | omega | (simp only [lenOk, bytesOk, inI, IntKind.bits, List.length_append, Bs_len, List.length_cons, List.length_nil, List.length_map, List.length_take, List.length_drop, List.length_replicate]; omega))⟩, ⟨by omega, by omega⟩, hR _ (i + 1) ⟨by omega, by omega⟩ (by omega) ?_⟩
      rw [hsn]; rfl
    · have e : ps.take i = ps.take 20 := by
        rcases Nat.lt_or_ge i ps.length with h | h
        · rw [show i = 20 by omega]
        · rw [List.take_of_length_le h, List.take_of_length_le (by omega)]
      have el : (ps.take 20).length = i := by rw [List.length_take]; omega
      have hcc : decide ((i : Int) < (ps.length : Int)) = false ∨ (decide ((i : Int) < (ps.length : Int)) = true ∧ decide ((i : Int) < 20) = false) := by
        rcases Nat.lt_or_ge i ps.length with h | h
        · exact .inr ⟨decide_eq_true (by omega), decide_eq_false (by omega)⟩
        · exact .inl (decide_eq_false (by omega))
      rw [el, e]
      have hel : ((es.take 20).map ex200).length = min es.length 20 := by rw [List.length_map, List.length_take]; omega
      rw [hel]
      rcases hcc with c1 | ⟨c1, c2⟩
      all_goals (
        first
          | simp only [b_lto_0, t_lto_1, comPs, com0, who0, c1, c2, go_sem, Nat.reduceDiv, Nat.reduceMod, ↓reduceIte, Nat.reduceEqDiff, Nat.reduceBEq, Nat.reduceSub, Nat.reduceLT, Nat.reduceAdd, Nat.reduceLeDiff, reduceCtorEq, Int.reduceEq, Int.reduceNe, Int.reduceLT, Int.reduceLE, Int.reduceToNat]
          | simp only [b_lto_0, t_lto_1, comPs, com0, who0, c1, go_sem, Nat.reduceDiv, Nat.reduceMod, ↓reduceIte, Nat.reduceEqDiff, Nat.reduceBEq, Nat.reduceSub, Nat.reduceLT, Nat.reduceAdd, Nat.reduceLeDiff, reduceCtorEq, Int.reduceEq, Int.reduceNe, Int.reduceLT, Int.reduceLE, Int.reduceToNat]
        refine loop2P [(4234, 54, 2)] [1, 2, 3, 5] [0, 1, 2, 3, 4] (fun j : Nat => ⟨[(1, .ref 0 0 0), (2, .ref 1 0 0), (3, .ref 2 0 0), (5, .int .i64 (j : Int))],
          [.cells 28 [(20, .blob (t.map U)), (1, .sl kq (ps.map idAV)), (1, .str an), (1, .str am), (1, .int .i64 at'), (1, .str az), (1, .str cn), (1, .str cm), (1, .int .i64 ct), (1, .str cz), (1, .sl ke (es.map exV)), (1, .str m)], .cells 35 com0, .cells 35 (comPs t (.own 3 i) wa wc (.own 4 j) (m.take 500)), .row 30 20 i ((ps.take 20).map idAV), .row 54 2 j (((es.take j).map ex200).map exV)]⟩)
          (fun j => j ≤ es.length ∧ j ≤ 20) (fun j => 20 - j) 0 (by rfl) ⟨Nat.zero_le _, Nat.zero_le _⟩ ⟨rfl, by rfl⟩ (fun j hj R2 hR2 => ?_)
        obtain ⟨j1, j2⟩ := hj
        by_cases hjl : j < es.length ∧ j < 20
        · obtain ⟨hjl, hj20⟩ := hjl
          have d1 : decide ((j : Int) < (es.length : Int)) = true := decide_eq_true (by omega)
          have d2 : decide ((j : Int) < 20) = true := decide_eq_true (by omega)
          have hk : ke = 2 := q5.resolve_right (by intro h; have := congrArg List.length h; simp at this; rw [this] at hjl; simp at hjl)
          subst hk
          have hget := getD_map exV es ([], []) (.agg [(1, (.str [])), (1, (.str []))]) hjl
          have hga : es.getD j ([], []) = es[j] := by simp [List.getD_eq_getElem?_getD, List.getElem?_eq_getElem hjl]
          obtain ⟨x1, x2⟩ := l7 es[j] (List.getElem_mem _)
          have t1 := take_min es[j].1 200
          have t1 : es[j].1.take (min (es[j].1.length : Int) 200).toNat = es[j].1.take 200 := t1
          have t2 := take_min es[j].2 200
          have t2 : es[j].2.take (min (es[j].2.length : Int) 200).toNat = es[j].2.take 200 := t2
          have hlen : (((es.take j).map ex200).map exV ++ [AV.agg [(1, AV.str (es[j].1.take 200)), (1, AV.str (es[j].2.take 200))]]).length = j + 1 := by simp; omega
          have hsn : ((es.take j).map ex200).map exV ++ [AV.agg [(1, AV.str (es[j].1.take 200)), (1, AV.str (es[j].2.take 200))]] = ((es.take (j + 1)).map ex200).map exV := by
            rw [← map_take_succ ex200 es hjl, List.map_append]; rfl
          simp only [b_lto_1, comPs, com0, who0, d1, d2, hget, hga, exV, t1, t2, Int.toNat_natCast, List.length_map, go_sem, Nat.reduceDiv, Nat.reduceMod, ↓reduceIte, Nat.reduceEqDiff, Nat.reduceBEq, Nat.reduceSub, Nat.reduceLT, Nat.reduceAdd, Nat.reduceLeDiff, reduceCtorEq, Int.reduceEq, Int.reduceNe, Int.reduceLT, Int.reduceLE, Int.reduceToNat]
          refine ⟨⟨by omega, by omega⟩, ⟨by omega, by omega⟩, ⟨by omega, by omega⟩, ⟨by rw [hlen]; (first | omega | (simp only [lenOk, bytesOk, inI, IntKind.bits, List.length_append, Bs_len, List.length_cons, List.length_nil, List.length_map, List.length_take, List.length_drop, List.length_replicate]; omega)), by rw [hlen]; (first | omega | (simp only [lenOk, bytesOk, inI, IntKind.bits, List.length_append, Bs_len, List.length_cons, List.length_nil, List.length_map, List.length_take, List.length_drop, List.length_replicate]; omega))⟩, ⟨by omega, by omega⟩, hR2 _ (j + 1) ⟨by omega, by omega⟩ (by omega) ?_⟩
          rw [hsn]; rfl
        · have e2 : es.take j = es.take 20 := by
            rcases Nat.lt_or_ge j es.length with h | h
            · rw [show j = 20 by omega]
            · rw [List.take_of_length_le h, List.take_of_length_le (by omega)]
          have ej : min es.length 20 = j := by omega
          have hdd : decide ((j : Int) < (es.length : Int)) = false ∨ (decide ((j : Int) < (es.length : Int)) = true ∧ decide ((j : Int) < 20) = false) := by
            rcases Nat.lt_or_ge j es.length with h | h
            · exact .inr ⟨decide_eq_true (by omega), decide_eq_false (by omega)⟩
            · exact .inl (decide_eq_false (by omega))
          rw [ej, e2]
          rcases hdd with d1 | ⟨d1, d2⟩
          · simp only [b_lto_1, t_lto_0, r_lto, comPs, com0, who0, d1, go_sem, Nat.reduceDiv, Nat.reduceMod, ↓reduceIte, Nat.reduceEqDiff, Nat.reduceBEq, Nat.reduceSub, Nat.reduceLT, Nat.reduceAdd, Nat.reduceLeDiff, reduceCtorEq, Int.reduceEq, Int.reduceNe, Int.reduceLT, Int.reduceLE, Int.reduceToNat]
          · simp only [b_lto_1, t_lto_0, r_lto, comPs, com0, who0, d1, d2, go_sem, Nat.reduceDiv, Nat.reduceMod, ↓reduceIte, Nat.reduceEqDiff, Nat.reduceBEq, Nat.reduceSub, Nat.reduceLT, Nat.reduceAdd, Nat.reduceLeDiff, reduceCtorEq, Int.reduceEq, Int.reduceNe, Int.reduceLT, Int.reduceLE, Int.reduceToNat])
  · cases hs
def lofS : Spec := fun xs hp => match xs, hp with
  | [.agg [(20, .blob t), (1, .sl kq ps), (1, .str an), (1, .str am), (1, .int .i64 at'), (1, .str az), (1, .str cn), (1, .str cm), (1, .int .i64 ct), (1, .str cz), (1, .sl ke es), (1, .str m)]], [] =>
    some ⟨comOwn ⟨unV t, ps.map unId, ⟨an, am, at', az⟩, ⟨cn, cm, ct, cz⟩, es.map unEx, m⟩,
      [.row 22 20 (ps.map unId).length ((ps.map unId).map idAV), .row 53 2 (es.map unEx).length ((es.map unEx).map exV)],
      argC t kq ps ke es ∧ (unV t).length = 20 ∧ (∀ p ∈ ps.map unId, p.length = 20) ∧ (ps.map unId).length ≤ 1000000 ∧ (es.map unEx).length ≤ 1000000⟩
  | _, _ => none
set_option maxHeartbeats 4000000 in
theorem lof_ok : FnOk Tryd.prog 9 lofS := by
  refine fn_slim2 Tryd.func9 s_lof (Φ := phiL [(26, [], lwhoOfS)]) (phi_cons lwhoOf_ok (by kernel_rfl) phi_nil) ?_
  intro xs hp r hs hp'
  unfold lofS at hs
  split at hs
  · injection hs with hs; subst hs
    rename_i t kq ps an am at' az cn cm ct cz ke es m
    obtain ⟨⟨q1, q2, q3, q4, q5⟩, l1, l2, l3, l4⟩ := hp'
    generalize unV t = t at *
    subst q1
    generalize ps.map unId = ps at *
    subst q2
    generalize es.map unEx = es at *
    subst q3
    refine ⟨len_le (by kernel_rfl), ?_⟩
    simp only [c_lof, lwhoOfS, go_sem, Nat.reduceDiv, Nat.reduceMod, ↓reduceIte, Nat.reduceEqDiff, Nat.reduceBEq, Nat.reduceSub, Nat.reduceLT, Nat.reduceAdd, Nat.reduceLeDiff, reduceCtorEq, Int.reduceEq, Int.reduceNe, Int.reduceLT, Int.reduceLE, Int.reduceToNat]
    refine ⟨l1, ?_⟩
    refine loop2P [(4225, 22, 20)] [1, 2, 3, 4] [0, 1, 2, 3] (fun i : Nat => ⟨[(1, .ref 0 0 0), (2, .ref 1 0 0), (3, .ref 2 0 0), (4, .int .i64 (i : Int))],
      [.cells 35 [(20, .blob (t.map U)), (1, .sl kq (ps.map idAV)), (1, .str an), (1, .str am), (1, .int .i64 at'), (1, .str az), (1, .str cn), (1, .str cm), (1, .int .i64 ct), (1, .str cz), (1, .sl ke (es.map exV)), (1, .str m)], .cells 28 com0, .cells 28 (comPs t (.own 3 i) ⟨an, am, at', az⟩ ⟨cn, cm, ct, cz⟩ (.con (.slice none 0 0)) m), .row 22 20 i ((ps.take i).map idAV)]⟩)
      (fun i => i ≤ ps.length) (fun i => ps.length - i) 0 (by rfl) (Nat.zero_le _) ⟨rfl, by rfl⟩ (fun i hi R hR => ?_)
    by_cases hil : i < ps.length
    · have c1 : decide ((i : Int) < (ps.length : Int)) = true := decide_eq_true (by omega)
      have hk : kq = 20 := q4.resolve_right (by intro h; have := congrArg List.length h; simp at this; rw [this] at hil; simp at hil)
      subst hk
      have hget := getD_map idAV ps [] (.blob (List.replicate 20 (.int .u8 0))) hil
      have hga : ps.getD i [] = ps[i] := by simp [List.getD_eq_getElem?_getD, List.getElem?_eq_getElem hil]
      have hl1 := l2 ps[i] (List.getElem_mem _)
      have hlen : ((ps.take i).map idAV ++ [AV.blob ((ps[i]).map U)]).length = i + 1 := by simp; omega
      have hsn : (ps.take i).map idAV ++ [AV.blob ((ps[i]).map U)] = (ps.take (i + 1)).map idAV := map_take_succ idAV ps hil
      simp only [b_lof_0, comPs, com0, who0, c1, hget, hga, idAV, hl1, Int.toNat_natCast, List.length_map, go_sem, Nat.reduceDiv, Nat.reduceMod, ↓reduceIte, Nat.reduceEqDiff, Nat.reduceBEq, Nat.reduceSub, Nat.reduceLT, Nat.reduceAdd, Nat.reduceLeDiff, reduceCtorEq, Int.reduceEq, Int.reduceNe, Int.reduceLT, Int.reduceLE, Int.reduceToNat]
      refine ⟨⟨by omega, by omega⟩, ⟨by rw [hlen]; (first | omega | (simp only [lenOk, bytesOk, inI, IntKind.bits, List.length_append, Bs_len, List.length_cons, List.length_nil, List.length_map, List.length_take, List.length_drop, List.length_replicate]; omega)), by rw [hlen]; (first | omega | (simp only [lenOk, bytesOk, inI, IntKind.bits, List.length_append, Bs_len, List.length_cons, List.length_nil, List.length_map, List.length_take, List.length_drop, List.length_replicate]; omega))⟩, ⟨by omega, by omega⟩, hR _ (i + 1) hil (by omega) ?_⟩
      rw [hsn]; rfl
    · have c1 : decide ((i : Int) < (ps.length : Int)) = false := decide_eq_false (by omega)
      obtain rfl : i = ps.length := by omega
      rw [List.take_length]
      simp only [b_lof_0, t_lof_1, comPs, com0, who0, c1, go_sem, Nat.reduceDiv, Nat.reduceMod, ↓reduceIte, Nat.reduceEqDiff, Nat.reduceBEq, Nat.reduceSub, Nat.reduceLT, Nat.reduceAdd, Nat.reduceLeDiff, reduceCtorEq, Int.reduceEq, Int.reduceNe, Int.reduceLT, Int.reduceLE, Int.reduceToNat]
      refine loop2P [(4234, 53, 2)] [1, 2, 3, 5] [0, 1, 2, 3, 4] (fun j : Nat => ⟨[(1, .ref 0 0 0), (2, .ref 1 0 0), (3, .ref 2 0 0), (5, .int .i64 (j : Int))],
        [.cells 35 [(20, .blob (t.map U)), (1, .sl kq (ps.map idAV)), (1, .str an), (1, .str am), (1, .int .i64 at'), (1, .str az), (1, .str cn), (1, .str cm), (1, .int .i64 ct), (1, .str cz), (1, .sl ke (es.map exV)), (1, .str m)], .cells 28 com0, .cells 28 (comPs t (.own 3 ps.length) ⟨an, am, at', az⟩ ⟨cn, cm, ct, cz⟩ (.own 4 j) m), .row 22 20 ps.length (ps.map idAV), .row 53 2 j ((es.take j).map exV)]⟩)
        (fun j => j ≤ es.length) (fun j => es.length - j) 0 (by rfl) (Nat.zero_le _) ⟨rfl, by rfl⟩ (fun j hj R2 hR2 => ?_)
      by_cases hjl : j < es.length
      · have d1 : decide ((j : Int) < (es.length : Int)) = true := decide_eq_true (by omega)
        have hk : ke = 2 := q5.resolve_right (by intro h; have := congrArg List.length h; simp at this; rw [this] at hjl; simp at hjl)
        subst hk
        have hget := getD_map exV es ([], []) (.agg [(1, (.str [])), (1, (.str []))]) hjl
        have hga : es.getD j ([], []) = es[j] := by simp [List.getD_eq_getElem?_getD, List.getElem?_eq_getElem hjl]
        have hlen : ((es.take j).map exV ++ [AV.agg [(1, AV.str es[j].1), (1, AV.str es[j].2)]]).length = j + 1 := by simp; omega
        have hsn : (es.take j).map exV ++ [AV.agg [(1, AV.str es[j].1), (1, AV.str es[j].2)]] = (es.take (j + 1)).map exV := map_take_succ exV es hjl
        simp only [b_lof_1, comPs, com0, who0, d1, hget, hga, exV, Int.toNat_natCast, List.length_map, go_sem, Nat.reduceDiv, Nat.reduceMod, ↓reduceIte, Nat.reduceEqDiff, Nat.reduceBEq, Nat.reduceSub, Nat.reduceLT, Nat.reduceAdd, Nat.reduceLeDiff, reduceCtorEq, Int.reduceEq, Int.reduceNe, Int.reduceLT, Int.reduceLE, Int.reduceToNat]
        refine ⟨⟨by omega, by omega⟩, ⟨by omega, by omega⟩, ⟨by rw [hlen]; (first | omega | (simp only [lenOk, bytesOk, inI, IntKind.bits, List.length_append, Bs_len, List.length_cons, List.length_nil, List.length_map, List.length_take, List.length_drop, List.length_replicate]; omega)), by rw [hlen]; (first | omega | (simp only [lenOk, bytesOk, inI, IntKind.bits, List.length_append, Bs_len, List.length_cons, List.length_nil, List.length_map, List.length_take, List.length_drop, List.length_replicate]; omega))⟩, ⟨by omega, by omega⟩, hR2 _ (j + 1) hjl (by omega) ?_⟩
        rw [hsn]; rfl
      · have d1 : decide ((j : Int) < (es.length : Int)) = false := decide_eq_false (by omega)
        obtain rfl : j = es.length := by omega
        rw [List.take_length]
        simp only [b_lof_1, t_lof_0, r_lof, comOwn, comPs, com0, who0, d1, go_sem, Nat.reduceDiv, Nat.reduceMod, ↓reduceIte, Nat.reduceEqDiff, Nat.reduceBEq, Nat.reduceSub, Nat.reduceLT, Nat.reduceAdd, Nat.reduceLeDiff, reduceCtorEq, Int.reduceEq, Int.reduceNe, Int.reduceLT, Int.reduceLE, Int.reduceToNat]
  · cases hs
end Go.Proofs.YtlkaaoekbmegkaaDoor
namespace Go.Proofs.YtlkaaoekbmegkaaDoor
set_option linter.all false
open Go.RowKit Go.ChangeShapes Go.WideShapes Go.ChangeAt Go.Deep
section
variable {H : Type} {enc : TypeId × Value → H} {P : Program} {w : World} {base : Nat} {spare : Nat → Bool} {held : Bool}
end
end Go.Proofs.YtlkaaoekbmegkaaDoor
namespace Go.Proofs.YtlkaaoekbmegkaaDoor
set_option linter.all false
open Go.RowKit Go.ChangeShapes Go.WideShapes Go.ChangeAt Go.Deep
section
variable {H : Type} {enc : TypeId × Value → H} {P : Program} {w : World} {base : Nat} {spare : Nat → Bool} {held : Bool}
end
end Go.Proofs.YtlkaaoekbmegkaaDoor
namespace Go.Proofs.YtlkaaoekbmegkaaDoor
set_option linter.all false
open Go.RowKit Go.ChangeShapes Go.WideShapes Go.ChangeAt Go.Deep
section
variable {H : Type} {enc : TypeId × Value → H} {P : Program} {w : World} {base : Nat} {spare : Nat → Bool} {held : Bool}
end
end Go.Proofs.YtlkaaoekbmegkaaDoor
namespace Go.Proofs.YtlkaaoekbmegkaaDoor
set_option linter.all false
open Go.RowKit Go.ChangeShapes Go.WideShapes Go.ChangeAt Go.Deep
section
variable {H : Type} {enc : TypeId × Value → H} {P : Program} {w : World} {base : Nat} {spare : Nat → Bool} {held : Bool}
end
end Go.Proofs.YtlkaaoekbmegkaaDoor
namespace Go.Proofs.YtlkaaoekbmegkaaDoor
set_option linter.all false
open Go.RowKit Go.ChangeShapes Go.WideShapes Go.ChangeAt Go.Deep
section
variable {H : Type} {enc : TypeId × Value → H} {P : Program} {w : World} {base : Nat} {spare : Nat → Bool} {held : Bool}
end
end Go.Proofs.YtlkaaoekbmegkaaDoor
namespace Go.Proofs.YtlkaaoekbmegkaaDoor
set_option linter.all false
open Go.RowKit
open Go.Lib (itoa)
theorem flat_id (l : List (List UInt8)) : (∀ x ∈ l.map idAV, flatB 4 x = true) = True := by
  refine eq_true fun x hx => ?_
  obtain ⟨y, _, rfl⟩ := List.mem_map.1 hx; rfl
theorem flat_exs (l : List ExL) : (∀ x ∈ l.map exV, flatB 4 x = true) = True := by
  refine eq_true fun x hx => ?_
  obtain ⟨y, _, rfl⟩ := List.mem_map.1 hx; rfl
theorem flat_Bs (l : List UInt8) : (∀ x ∈ Bs l, flatB 4 x = true) = True := eq_true (flat_B l)
theorem sameC_self (c : ComL) : sameC c c = true := sameC_iff.2 rfl
end Go.Proofs.YtlkaaoekbmegkaaDoor
namespace Go.Proofs.YtlkaaoekbmegkaaDoor
set_option linter.all false
open Go.RowKit
open Go.Lib (itoa)
noncomputable def phiBack : Phi := phiL [(5, [], ltoS), (9, [], lofS), (6, [], prnS), (7, [], cparS), (8, [], rsameS), (10, [], knownS), (11, [], cpartS)]
theorem phiBack_ok : PhiOk Tryd.prog phiBack := phi_cons lto_ok (by kernel_rfl) (phi_cons lof_ok (by kernel_rfl) (phi_cons prn_ok (by kernel_rfl) (phi_cons cpar_ok (by kernel_rfl) (phi_cons rsame_ok (by kernel_rfl) (phi_cons known11_ok (by kernel_rfl) (phi_cons cpart_ok (by kernel_rfl) phi_nil))))))
theorem phiBack_1 : phiBack 5 = some ([], ltoS) := rfl
theorem phiBack_2 : phiBack 9 = some ([], lofS) := rfl
theorem phiBack_3 : phiBack 6 = some ([], prnS) := rfl
theorem phiBack_4 : phiBack 7 = some ([], cparS) := rfl
theorem phiBack_5 : phiBack 8 = some ([], rsameS) := rfl
theorem phiBack_6 : phiBack 10 = some ([], knownS) := rfl
theorem phiBack_7 : phiBack 11 = some ([], cpartS) := rfl
end Go.Proofs.YtlkaaoekbmegkaaDoor
namespace Go.Proofs.YtlkaaoekbmegkaaDoor
set_option linter.all false
open Go.RowKit
open Go.Lib (itoa)
noncomputable def lmoreS : Spec := fun xs hp => match xs, hp with
  | [.sl 1 bs, .sl 1 ms], [] => some ⟨.bool true, [], bs = Bs (unB bs) ∧ bs.length ≤ 9223372036854775807 ∧ ms = Bs (unB ms) ∧ ms.length ≤ 9223372036854775807⟩
  | _, _ => none
theorem Bs_two (a b : List UInt8) : Bs a ++ Bs b = Bs (a ++ b) := by simp [Bs]
theorem tb_of (b : List UInt8) (k : Nat) : (Bs b).take (min (b.length : Int) (k : Int)).toNat = Bs (b.take k) := by
  show (List.map ub b).take _ = _
  rw [← List.map_take, take_min]; rfl
theorem msg_le {s : List UInt8} (h : parB11 s = true) : (parC11 s).message.length ≤ s.length := by
  have := congrArg List.length (body_com h).2
  rw [bodyC_shape] at this
  simp only [List.length_append, List.length_cons] at this
  omega
theorem msgT_le {s : List UInt8} (h : parBT11 s = true) : (parT11 s).message.length ≤ s.length := by
  have := congrArg List.length (body_tag h).2
  rw [bodyT_shape] at this
  simp only [List.length_append, List.length_cons] at this
  omega
set_option maxHeartbeats 8000000 in
set_option maxRecDepth 8000 in
theorem lmore_ok : FnOk Tryd.prog 4 lmoreS := by
  refine fn_slim2 Tryd.func4 s_lmore phiBack_ok ?_
  intro xs hp r hs hp'
  unfold lmoreS at hs
  split at hs
  · injection hs with hs; subst hs
    rename_i bs ms
    obtain ⟨q0, p0, q1, p1⟩ := hp'
    generalize unB bs = b at *
    subst q0
    generalize unB ms = m at *
    subst q1
    rw [Bs_len] at p0 p1
    refine ⟨len_le (by kernel_rfl), ?_⟩
    have t1 := tb_of b 2000
    have t1 : (Bs b).take (min (b.length : Int) 2000).toNat = Bs (b.take 2000) := t1
    have t2 := tb_of m 200
    have t2 : (Bs m).take (min (m.length : Int) 200).toNat = Bs (m.take 200) := t2
    have hl : (b.take 2000).length ≤ 2000 := by rw [List.length_take]; omega
    have hm : (m.take 200).length ≤ 200 := by rw [List.length_take]; omega
    generalize b.take 2000 = s at *
    generalize m.take 200 = n at *
    have t3 := tb_of s 45
    have t3 : (Bs s).take (min (s.length : Int) 45).toNat = Bs (s.take 45) := t3
    have hsh : (s.take 45).length ≤ 45 := by rw [List.length_take]; omega
    have e5 := parR11_f (par_short hsh)
    have hla : (s ++ n).length ≤ 2200 := by rw [List.length_append]; omega
    obtain ⟨c20, p20⟩ := parC11_len s
    obtain ⟨d20, r20⟩ := parC11_len (s ++ n)
    have x20 := parT11_len s
    have y20 := parT11_len (s ++ n)
    cases h1 : parB11 s with
    | true =>
      obtain ⟨h3, h4⟩ := par_more (m := n) h1
      obtain ⟨n1, n2⟩ := par_cnt h1
      obtain ⟨c, hc⟩ : ∃ c, parC11 s = c := ⟨_, rfl⟩
      have e1 := parR11_t h1 hc
      have mc := msg_le h1
      rw [hc] at h4 c20 p20 n1 n2 mc
      have e2 := parR11_t h3 h4
      obtain ⟨ct, cp, ⟨can, cam, cat, caz⟩, ⟨ccn, ccm, cct, ccz⟩, ce, cm⟩ := c
      simp only at c20 p20 n1 n2 e1 e2 mc
      cases g1 : parBT11 s with
      | true =>
        obtain ⟨g3, g4⟩ := part_more (m := n) g1
        obtain ⟨u, hu⟩ : ∃ u, parT11 s = u := ⟨_, rfl⟩
        have f1 := parRT11_t g1 hu
        have mt := msgT_le g1
        rw [hu] at g4 x20 mt
        have f2 := parRT11_t g3 g4
        obtain ⟨uo, uk, un, ⟨uwn, uwm, uwt, uwz⟩, um⟩ := u
        simp only at x20 f1 f2 mt
        simp only [c_lmore, r_lmore, t1, t2, t3, Bs_two, phiBack_1, phiBack_2, phiBack_3, phiBack_4, phiBack_5, phiBack_6, phiBack_7, ltoS, lofS, prnS, cparS, cpartS, rsameS, knownS, comOwn, comPs, com0, who0, tagPs, tag0, argC, unV_U, unId_map, unEx_map, unB_Bs, sameC_self, if_true, if_false, Bool.false_eq_true, ↓flat_id, ↓flat_exs, ↓flat_Bs, e1, e2, e5, f1, f2, go_sem, Nat.reduceDiv, Nat.reduceMod, ↓reduceIte, Nat.reduceEqDiff, Nat.reduceBEq, Nat.reduceSub, Nat.reduceLT, Nat.reduceAdd, Nat.reduceLeDiff, reduceCtorEq, Int.reduceEq, Int.reduceNe, Int.reduceLT, Int.reduceLE, Int.reduceToNat]
        (repeat' apply And.intro); all_goals first | omega | exact .inl trivial | exact .inr trivial | exact .inr rfl | exact p20 | exact c20 | exact x20 | exact y20 | rfl | trivial | (intro p hp; cases hp; done) | (first | omega | (simp only [lenOk, bytesOk, inI, IntKind.bits, List.length_append, Bs_len, List.length_cons, List.length_nil, List.length_map, List.length_take, List.length_drop, List.length_replicate]; omega)) | skip
      | false =>
        have f1 := parRT11_f g1
        cases g3 : parBT11 (s ++ n) with
        | true =>
          obtain ⟨u, hu⟩ : ∃ u, parT11 (s ++ n) = u := ⟨_, rfl⟩
          have f2 := parRT11_t g3 hu
          simp only [c_lmore, r_lmore, t1, t2, t3, Bs_two, phiBack_1, phiBack_2, phiBack_3, phiBack_4, phiBack_5, phiBack_6, phiBack_7, ltoS, lofS, prnS, cparS, cpartS, rsameS, knownS, comOwn, comPs, com0, who0, tagPs, tag0, argC, unV_U, unId_map, unEx_map, unB_Bs, sameC_self, if_true, if_false, Bool.false_eq_true, ↓flat_id, ↓flat_exs, ↓flat_Bs, e1, e2, e5, f1, f2, go_sem, Nat.reduceDiv, Nat.reduceMod, ↓reduceIte, Nat.reduceEqDiff, Nat.reduceBEq, Nat.reduceSub, Nat.reduceLT, Nat.reduceAdd, Nat.reduceLeDiff, reduceCtorEq, Int.reduceEq, Int.reduceNe, Int.reduceLT, Int.reduceLE, Int.reduceToNat]
          (repeat' apply And.intro); all_goals first | omega | exact .inl trivial | exact .inr trivial | exact .inr rfl | exact p20 | exact c20 | exact x20 | exact y20 | rfl | trivial | (intro p hp; cases hp; done) | (first | omega | (simp only [lenOk, bytesOk, inI, IntKind.bits, List.length_append, Bs_len, List.length_cons, List.length_nil, List.length_map, List.length_take, List.length_drop, List.length_replicate]; omega)) | skip
        | false =>
          have f2 := parRT11_f g3
          simp only [c_lmore, r_lmore, t1, t2, t3, Bs_two, phiBack_1, phiBack_2, phiBack_3, phiBack_4, phiBack_5, phiBack_6, phiBack_7, ltoS, lofS, prnS, cparS, cpartS, rsameS, knownS, comOwn, comPs, com0, who0, tagPs, tag0, argC, unV_U, unId_map, unEx_map, unB_Bs, sameC_self, if_true, if_false, Bool.false_eq_true, ↓flat_id, ↓flat_exs, ↓flat_Bs, e1, e2, e5, f1, f2, go_sem, Nat.reduceDiv, Nat.reduceMod, ↓reduceIte, Nat.reduceEqDiff, Nat.reduceBEq, Nat.reduceSub, Nat.reduceLT, Nat.reduceAdd, Nat.reduceLeDiff, reduceCtorEq, Int.reduceEq, Int.reduceNe, Int.reduceLT, Int.reduceLE, Int.reduceToNat]
          (repeat' apply And.intro); all_goals first | omega | exact .inl trivial | exact .inr trivial | exact .inr rfl | exact p20 | exact c20 | exact x20 | exact y20 | rfl | trivial | (intro p hp; cases hp; done) | (first | omega | (simp only [lenOk, bytesOk, inI, IntKind.bits, List.length_append, Bs_len, List.length_cons, List.length_nil, List.length_map, List.length_take, List.length_drop, List.length_replicate]; omega)) | skip
    | false =>
      have e1 := parR11_f h1
      cases h3 : parB11 (s ++ n) with
      | true =>
        obtain ⟨c, hc⟩ : ∃ c, parC11 (s ++ n) = c := ⟨_, rfl⟩
        have e2 := parR11_t h3 hc
        rw [hc] at d20 r20
        obtain ⟨ct, cp, ⟨can, cam, cat, caz⟩, ⟨ccn, ccm, cct, ccz⟩, ce, cm⟩ := c
        simp only at d20 r20 e2
        cases g1 : parBT11 s with
        | true =>
          obtain ⟨g3, g4⟩ := part_more (m := n) g1
          obtain ⟨u, hu⟩ : ∃ u, parT11 s = u := ⟨_, rfl⟩
          have f1 := parRT11_t g1 hu
          have mt := msgT_le g1
          rw [hu] at g4 x20 mt
          have f2 := parRT11_t g3 g4
          obtain ⟨uo, uk, un, ⟨uwn, uwm, uwt, uwz⟩, um⟩ := u
          simp only at x20 f1 f2 mt
          simp only [c_lmore, r_lmore, t1, t2, t3, Bs_two, phiBack_1, phiBack_2, phiBack_3, phiBack_4, phiBack_5, phiBack_6, phiBack_7, ltoS, lofS, prnS, cparS, cpartS, rsameS, knownS, comOwn, comPs, com0, who0, tagPs, tag0, argC, unV_U, unId_map, unEx_map, unB_Bs, sameC_self, if_true, if_false, Bool.false_eq_true, ↓flat_id, ↓flat_exs, ↓flat_Bs, e1, e2, e5, f1, f2, go_sem, Nat.reduceDiv, Nat.reduceMod, ↓reduceIte, Nat.reduceEqDiff, Nat.reduceBEq, Nat.reduceSub, Nat.reduceLT, Nat.reduceAdd, Nat.reduceLeDiff, reduceCtorEq, Int.reduceEq, Int.reduceNe, Int.reduceLT, Int.reduceLE, Int.reduceToNat]
          (repeat' apply And.intro); all_goals first | omega | exact .inl trivial | exact .inr trivial | exact .inr rfl | exact p20 | exact c20 | exact x20 | exact y20 | rfl | trivial | (intro p hp; cases hp; done) | (first | omega | (simp only [lenOk, bytesOk, inI, IntKind.bits, List.length_append, Bs_len, List.length_cons, List.length_nil, List.length_map, List.length_take, List.length_drop, List.length_replicate]; omega)) | skip
        | false =>
          have f1 := parRT11_f g1
          cases g3 : parBT11 (s ++ n) with
          | true =>
            obtain ⟨u, hu⟩ : ∃ u, parT11 (s ++ n) = u := ⟨_, rfl⟩
            have f2 := parRT11_t g3 hu
            simp only [c_lmore, r_lmore, t1, t2, t3, Bs_two, phiBack_1, phiBack_2, phiBack_3, phiBack_4, phiBack_5, phiBack_6, phiBack_7, ltoS, lofS, prnS, cparS, cpartS, rsameS, knownS, comOwn, comPs, com0, who0, tagPs, tag0, argC, unV_U, unId_map, unEx_map, unB_Bs, sameC_self, if_true, if_false, Bool.false_eq_true, ↓flat_id, ↓flat_exs, ↓flat_Bs, e1, e2, e5, f1, f2, go_sem, Nat.reduceDiv, Nat.reduceMod, ↓reduceIte, Nat.reduceEqDiff, Nat.reduceBEq, Nat.reduceSub, Nat.reduceLT, Nat.reduceAdd, Nat.reduceLeDiff, reduceCtorEq, Int.reduceEq, Int.reduceNe, Int.reduceLT, Int.reduceLE, Int.reduceToNat]
            (repeat' apply And.intro); all_goals first | omega | exact .inl trivial | exact .inr trivial | exact .inr rfl | exact p20 | exact c20 | exact x20 | exact y20 | rfl | trivial | (intro p hp; cases hp; done) | (first | omega | (simp only [lenOk, bytesOk, inI, IntKind.bits, List.length_append, Bs_len, List.length_cons, List.length_nil, List.length_map, List.length_take, List.length_drop, List.length_replicate]; omega)) | skip
          | false =>
            have f2 := parRT11_f g3
            simp only [c_lmore, r_lmore, t1, t2, t3, Bs_two, phiBack_1, phiBack_2, phiBack_3, phiBack_4, phiBack_5, phiBack_6, phiBack_7, ltoS, lofS, prnS, cparS, cpartS, rsameS, knownS, comOwn, comPs, com0, who0, tagPs, tag0, argC, unV_U, unId_map, unEx_map, unB_Bs, sameC_self, if_true, if_false, Bool.false_eq_true, ↓flat_id, ↓flat_exs, ↓flat_Bs, e1, e2, e5, f1, f2, go_sem, Nat.reduceDiv, Nat.reduceMod, ↓reduceIte, Nat.reduceEqDiff, Nat.reduceBEq, Nat.reduceSub, Nat.reduceLT, Nat.reduceAdd, Nat.reduceLeDiff, reduceCtorEq, Int.reduceEq, Int.reduceNe, Int.reduceLT, Int.reduceLE, Int.reduceToNat]
            (repeat' apply And.intro); all_goals first | omega | exact .inl trivial | exact .inr trivial | exact .inr rfl | exact p20 | exact c20 | exact x20 | exact y20 | rfl | trivial | (intro p hp; cases hp; done) | (first | omega | (simp only [lenOk, bytesOk, inI, IntKind.bits, List.length_append, Bs_len, List.length_cons, List.length_nil, List.length_map, List.length_take, List.length_drop, List.length_replicate]; omega)) | skip
      | false =>
        have e2 := parR11_f h3
        cases g1 : parBT11 s with
        | true =>
          obtain ⟨g3, g4⟩ := part_more (m := n) g1
          obtain ⟨u, hu⟩ : ∃ u, parT11 s = u := ⟨_, rfl⟩
          have f1 := parRT11_t g1 hu
          have mt := msgT_le g1
          rw [hu] at g4 x20 mt
          have f2 := parRT11_t g3 g4
          obtain ⟨uo, uk, un, ⟨uwn, uwm, uwt, uwz⟩, um⟩ := u
          simp only at x20 f1 f2 mt
          simp only [c_lmore, r_lmore, t1, t2, t3, Bs_two, phiBack_1, phiBack_2, phiBack_3, phiBack_4, phiBack_5, phiBack_6, phiBack_7, ltoS, lofS, prnS, cparS, cpartS, rsameS, knownS, comOwn, comPs, com0, who0, tagPs, tag0, argC, unV_U, unId_map, unEx_map, unB_Bs, sameC_self, if_true, if_false, Bool.false_eq_true, ↓flat_id, ↓flat_exs, ↓flat_Bs, e1, e2, e5, f1, f2, go_sem, Nat.reduceDiv, Nat.reduceMod, ↓reduceIte, Nat.reduceEqDiff, Nat.reduceBEq, Nat.reduceSub, Nat.reduceLT, Nat.reduceAdd, Nat.reduceLeDiff, reduceCtorEq, Int.reduceEq, Int.reduceNe, Int.reduceLT, Int.reduceLE, Int.reduceToNat]
          (repeat' apply And.intro); all_goals first | omega | exact .inl trivial | exact .inr trivial | exact .inr rfl | exact p20 | exact c20 | exact x20 | exact y20 | rfl | trivial | (intro p hp; cases hp; done) | (first | omega | (simp only [lenOk, bytesOk, inI, IntKind.bits, List.length_append, Bs_len, List.length_cons, List.length_nil, List.length_map, List.length_take, List.length_drop, List.length_replicate]; omega)) | skip
        | false =>
          have f1 := parRT11_f g1
          cases g3 : parBT11 (s ++ n) with
          | true =>
            obtain ⟨u, hu⟩ : ∃ u, parT11 (s ++ n) = u := ⟨_, rfl⟩
            have f2 := parRT11_t g3 hu
            simp only [c_lmore, r_lmore, t1, t2, t3, Bs_two, phiBack_1, phiBack_2, phiBack_3, phiBack_4, phiBack_5, phiBack_6, phiBack_7, ltoS, lofS, prnS, cparS, cpartS, rsameS, knownS, comOwn, comPs, com0, who0, tagPs, tag0, argC, unV_U, unId_map, unEx_map, unB_Bs, sameC_self, if_true, if_false, Bool.false_eq_true, ↓flat_id, ↓flat_exs, ↓flat_Bs, e1, e2, e5, f1, f2, go_sem, Nat.reduceDiv, Nat.reduceMod, ↓reduceIte, Nat.reduceEqDiff, Nat.reduceBEq, Nat.reduceSub, Nat.reduceLT, Nat.reduceAdd, Nat.reduceLeDiff, reduceCtorEq, Int.reduceEq, Int.reduceNe, Int.reduceLT, Int.reduceLE, Int.reduceToNat]
            (repeat' apply And.intro); all_goals first | omega | exact .inl trivial | exact .inr trivial | exact .inr rfl | exact p20 | exact c20 | exact x20 | exact y20 | rfl | trivial | (intro p hp; cases hp; done) | (first | omega | (simp only [lenOk, bytesOk, inI, IntKind.bits, List.length_append, Bs_len, List.length_cons, List.length_nil, List.length_map, List.length_take, List.length_drop, List.length_replicate]; omega)) | skip
          | false =>
            have f2 := parRT11_f g3
            simp only [c_lmore, r_lmore, t1, t2, t3, Bs_two, phiBack_1, phiBack_2, phiBack_3, phiBack_4, phiBack_5, phiBack_6, phiBack_7, ltoS, lofS, prnS, cparS, cpartS, rsameS, knownS, comOwn, comPs, com0, who0, tagPs, tag0, argC, unV_U, unId_map, unEx_map, unB_Bs, sameC_self, if_true, if_false, Bool.false_eq_true, ↓flat_id, ↓flat_exs, ↓flat_Bs, e1, e2, e5, f1, f2, go_sem, Nat.reduceDiv, Nat.reduceMod, ↓reduceIte, Nat.reduceEqDiff, Nat.reduceBEq, Nat.reduceSub, Nat.reduceLT, Nat.reduceAdd, Nat.reduceLeDiff, reduceCtorEq, Int.reduceEq, Int.reduceNe, Int.reduceLT, Int.reduceLE, Int.reduceToNat]
            (repeat' apply And.intro); all_goals first | omega | exact .inl trivial | exact .inr trivial | exact .inr rfl | exact p20 | exact c20 | exact x20 | exact y20 | rfl | trivial | (intro p hp; cases hp; done) | (first | omega | (simp only [lenOk, bytesOk, inI, IntKind.bits, List.length_append, Bs_len, List.length_cons, List.length_nil, List.length_map, List.length_take, List.length_drop, List.length_replicate]; omega)) | skip
  · cases hs
theorem commitMore_walk {A0 : Option Addr} {n0 c0 : Nat} {l0 : List UInt8} {A1 : Option Addr} {n1 c1 : Nat} {l1 : List UInt8} (w : World) (w0 : Arg w A0 n0 c0 l0) (w1 : Arg w A1 n1 c1 l1) (g : GlobOk w (fun b => b < w.heap.size)) :
    Calls Tryd.prog 4 #[.slice A0 n0 c0, .slice A1 n1 c1] w fun e w' => e = .returned (.bool true) ∧ Below w.heap.size w w' :=
  lmore_ok.calls_bool (xs := [.sl 1 (Bs l0), .sl 1 (Bs l1)]) rfl ⟨by rw [unB_Bs], by rw [Bs_len]; have := w0.cap; have := w0.max; omega, by rw [unB_Bs], by rw [Bs_len]; have := w1.cap; have := w1.max; omega⟩ rfl
    (args_cons w0.vl (args_cons w1.vl (args_nil g)))
end Go.Proofs.YtlkaaoekbmegkaaDoor
