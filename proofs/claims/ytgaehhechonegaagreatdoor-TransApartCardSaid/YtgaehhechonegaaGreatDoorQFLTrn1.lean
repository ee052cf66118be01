import Derived.Test.YtgaehhechonegaaGreatDoorQFTrn4
import Derived.Test.YtgaehhechonegaaGreatDoorChecked
import Derived.Test.YtgaehhechonegaaGreatDoorQAMS
import Derived.Test.YtgaehhechonegaaGreatDoorQFGVal
import Derived.Test.YtgaehhechonegaaGreatDoorQRComCode
import Derived.Test.YtgaehhechonegaaGreatDoorQAM5
import Derived.Test.YtgaehhechonegaaGreatDoorQLComCode
import Derived.Test.YtgaehhechonegaaGreatDoorQLChgCode
namespace Go.Proofs.YtgaehhechonegaaGreatDoor
set_option linter.all false
open Go.RowKit
open Go.Lib (index hasPrefix trimPrefix cut indexAny itoa)
def chgF (c : ChgL) : AV := .agg [(20, .blob (c.man.map U)), (1, .str c.user), (1, .int .i64 c.time), (1, .int .i64 c.zone), (1, .sl 2 (c.extras.map exV)), (1, .sl 1 (c.files.map AV.str)), (1, .str c.desc)]
def ltoZ : Spec := fun xs hp => match xs, hp with
  | [.agg [(20, .blob t), (1, .sl kq ps), (1, .str an), (1, .str am), (1, .int .i64 at'), (1, .str az), (1, .str cn), (1, .str cm), (1, .int .i64 ct), (1, .str cz), (1, .sl ke es), (1, .str m)]], [] =>
    some ⟨comZ 20 (toC ⟨unV t, ps.map unId, ⟨an, am, at', az⟩, ⟨cn, cm, ct, cz⟩, es.map unEx, m⟩), [], argC t kq ps ke es ∧ maxC ⟨unV t, ps.map unId, ⟨an, am, at', az⟩, ⟨cn, cm, ct, cz⟩, es.map unEx, m⟩⟩
  | _, _ => none
theorem ltoZ_ok : FnOk Tryz.prog 9 ltoZ := lto_ok.freezeD fun xs hp r' hs hp' => by
  unfold ltoZ at hs
  split at hs
  · injection hs with hs; subst hs
    refine ⟨rfl, _, rfl, hp', rfl, ?_, rfl, rfl⟩
    simp [fzV, fzD, comZ, comOwn, comPs]
  · cases hs
def lofZ : Spec := fun xs hp => match xs, hp with
  | [.agg [(20, .blob t), (1, .sl kq ps), (1, .str an), (1, .str am), (1, .int .i64 at'), (1, .str az), (1, .str cn), (1, .str cm), (1, .int .i64 ct), (1, .str cz), (1, .sl ke es), (1, .str m)]], [] =>
    some ⟨comZ 20 ⟨unV t, ps.map unId, ⟨an, am, at', az⟩, ⟨cn, cm, ct, cz⟩, es.map unEx, m⟩, [], argC t kq ps ke es ∧ (unV t).length = 20 ∧ (∀ p ∈ ps.map unId, p.length = 20) ∧ (ps.map unId).length ≤ 1000000 ∧ (es.map unEx).length ≤ 1000000⟩
  | _, _ => none
theorem lofZ_ok : FnOk Tryz.prog 10 lofZ := lof_ok.freezeD fun xs hp r' hs hp' => by
  unfold lofZ at hs
  split at hs
  · injection hs with hs; subst hs
    refine ⟨rfl, _, rfl, hp', rfl, ?_, rfl, rfl⟩
    simp [fzV, fzD, comZ, comOwn, comPs]
  · cases hs
def lgtoZ : Spec := fun xs hp => match xs, hp with
  | [.agg [(20, .blob m), (1, .str u), (1, .int .i64 t), (1, .int .i64 z), (1, .sl ke es), (1, .sl kf fs), (1, .str d)]], [] =>
    some ⟨chgF (toH ⟨unV m, u, t, z, es.map unEx, fs.map unS, d⟩), [], argG m ke es kf fs ∧ maxH ⟨unV m, u, t, z, es.map unEx, fs.map unS, d⟩⟩
  | _, _ => none
theorem lgtoZ_ok : FnOk Tryz.prog 18 lgtoZ := lgto_ok.freezeD fun xs hp r' hs hp' => by
  unfold lgtoZ at hs
  split at hs
  · injection hs with hs; subst hs
    refine ⟨rfl, _, rfl, hp', rfl, ?_, rfl, rfl⟩
    simp [fzV, fzD, chgF, cOwn]
  · cases hs
def lgofZ : Spec := fun xs hp => match xs, hp with
  | [.agg [(20, .blob m), (1, .str u), (1, .int .i64 t), (1, .int .i64 z), (1, .sl ke es), (1, .sl kf fs), (1, .str d)]], [] =>
    some ⟨chgF ⟨unV m, u, t, z, es.map unEx, fs.map unS, d⟩, [], argG m ke es kf fs ∧ (unV m).length = 20 ∧ es.length ≤ 1000000 ∧ fs.length ≤ 1000000⟩
  | _, _ => none
theorem lgofZ_ok : FnOk Tryz.prog 15 lgofZ := lgof_ok.freezeD fun xs hp r' hs hp' => by
  unfold lgofZ at hs
  split at hs
  · injection hs with hs; subst hs
    refine ⟨rfl, _, rfl, hp', rfl, ?_, rfl, rfl⟩
    simp [fzV, fzD, chgF, cOwn]
  · cases hs
theorem mz_le (es : List ExL) (k : Nat) (h : ∀ x ∈ es, x.2.length ≤ k) : mz es ≤ k * es.length := by
  induction es with
  | nil => simp [mz]
  | cons x es ih =>
    have h1 := h x (List.mem_cons_self ..)
    have h2 := ih fun y hy => h y (List.mem_cons_of_mem _ hy)
    simp only [mz, List.map_cons, List.sum_cons, List.length_cons] at h2 ⊢
    rw [Nat.mul_add, Nat.mul_one]; omega
theorem toC_sz (c : ComL) (h : comB c) : szC (aloneC (toC c)) ∧ mz (toC c).extras ≤ 10000 := by
  obtain ⟨h1, h2, h3, h4, h5, h6, h7, h8, h9, h10⟩ := toC_len c h
  generalize toC c = d at *
  have hw := wExt_le d.extras h5
  have hf := flat_ex d.extras
  have hm := mz_le d.extras 200 fun x hx => (h5 x hx).2
  have hw2 : 402 * d.extras.length ≤ 402 * 20 := Nat.mul_le_mul_left _ h4
  have hm2 : 200 * d.extras.length ≤ 200 * 20 := Nat.mul_le_mul_left _ h4
  have t1 := textW_le (w := d.author) h9
  have t2 := textW_le (w := d.committer) h10
  have hh := hexL_length zr20
  have hz : (zr20 : List UInt8).length = 20 := rfl
  refine ⟨⟨?_, by show d.message.length ≤ 90000; omega⟩, by omega⟩
  have := congrArg List.length (bodyC_shape (noM (aloneC d)))
  simp only [noM, aloneC, List.length_append, List.length_cons, List.flatMap_nil, List.length_nil, treW, autW, comW] at this ⊢
  omega
def whoK : WhoL := ⟨[65], [97], 5, [45, 48, 49, 48, 48]⟩
def comK : ComL := ⟨zr20, [], whoK, whoK, [], [109]⟩
theorem comK_right : rightC comK = true := by decide
end Go.Proofs.YtgaehhechonegaaGreatDoor
namespace Go.Proofs.YtgaehhechonegaaGreatDoor
set_option linter.all false
open Go.RowKit
open Go.Lib (index hasPrefix trimPrefix cut indexAny itoa)
theorem of_K : (obF 10000).1 comK = plainH comK := of_plain (of_not fun k v ho => by cases ho)
def bodyK : List UInt8 := bodyC ⟨zr20, [], whoK, whoK, [], []⟩
theorem bodyK_len : bodyK.length ≤ 1000 := by
  have t1 := textW_le (w := whoK) ⟨by decide, by decide⟩
  have hh := hexL_length zr20
  have hz : (zr20 : List UInt8).length = 20 := rfl
  have := congrArg List.length (bodyC_shape ⟨zr20, [], whoK, whoK, [], []⟩)
  unfold bodyK
  simp only [List.length_append, List.length_cons, List.flatMap_nil, List.length_nil, treW, autW, comW, whoK] at this t1 ⊢
  omega
theorem plain_K : plainH comK = ⟨zr20, [65, 32, 60, 97, 62], 5, 0, [(gitW, bodyK)], [], [109]⟩ := rfl
theorem back_K : (obF 10000).2 ⟨zr20, [65, 32, 60, 97, 62], 5, 0, [(gitW, bodyK)], [], [109]⟩ = comK := by
  have h := back_of (c := comK) comK_right rfl rfl (n := 10000) (m := 10000) (by decide) (by
    rw [of_K, plain_K]
    have := bodyK_len
    simp only [mz, List.map_cons, List.map_nil, List.sum_cons, List.sum_nil]; omega)
  rwa [of_K, plain_K] at h
theorem K_right : rightH ⟨zr20, [65, 32, 60, 97, 62], 5, 0, [(gitW, bodyK)], [], [109]⟩ = true := by rw [← plain_K]; exact right_plain comK_right
theorem K_pre : tchgPre 10000 comK := by
  have hb := bodyK_len
  refine ⟨?_, ⟨by show bodyK.length ≤ 90000; omega, by decide⟩, by decide⟩
  have := szC_ok (c := comK) comK_right ⟨by show bodyK.length ≤ 90000; omega, by decide⟩
  have hp := com_body (c := comK) comK_right rfl (fun p hp => by cases hp)
  have := par_size hp.1 (by
    have h2 := congrArg List.length (bodyC_shape comK)
    have t1 := textW_le (w := whoK) ⟨by decide, by decide⟩
    have hh := hexL_length zr20
    have hz : (zr20 : List UInt8).length = 20 := rfl
    simp only [List.length_append, List.length_cons, List.flatMap_nil, List.length_nil, treW, autW, comW, whoK, comK] at h2 t1 ⊢
    omega)
  rwa [hp.2] at this
theorem K_pre2 : tcomPre 10000 ⟨zr20, [65, 32, 60, 97, 62], 5, 0, [(gitW, bodyK)], [], [109]⟩ := by
  have hb := bodyK_len
  have i5 := Lib.itoa_length_le 5 (by decide) (by decide)
  have i0 := Lib.itoa_length_le 0 (by decide) (by decide)
  have ht := exsT_le [(gitW, bodyK)] 4000 fun x hx => by rw [List.mem_singleton.1 hx]; show gitW.length + 2 * bodyK.length + 2 ≤ 4000; have : gitW.length = 3 := rfl; omega
  have hs := subst1_len 10 [10, 32] bodyK
  refine ⟨rfl, ⟨rfl, by decide, by decide, by decide, fun x hx => ?_, fun f hf => (by cases hf), ?_, by decide, by decide, ⟨by decide, by decide⟩, ⟨by decide, by decide⟩⟩, ⟨?_, by decide⟩, ?_⟩
  · rw [List.mem_singleton.1 hx]; exact ⟨by decide, by show bodyK.length ≤ 1000000; omega⟩
  · simp only [ownH, List.length_cons, List.length_nil] at ht ⊢; omega
  · simp only [wordsT, ownH, List.flatMap_cons, List.flatMap_nil, exL, List.length_append, List.length_cons, List.length_nil, gitW] at hs ⊢; omega
  · simp only [mz, List.map_cons, List.map_nil, List.sum_cons, List.sum_nil]; omega
def tknownS : Spec := fun xs hp => match xs, hp with
  | [], [] => some ⟨.bool true, [], True⟩
  | _, _ => none
set_option maxHeartbeats 4000000 in
theorem tknown_ok : FnOk Tryz.prog 13 tknownS := by
  refine fn_slim2 Tryz.func13 s_tknown (Φ := phiL [(11, [], tchgS 10000), (19, [], tcomS 10000)]) (phi_cons (tchg_ok 10000) (by kernel_rfl) (phi_cons (tcom_ok 10000) (by kernel_rfl) phi_nil)) ?_
  intro xs hp r hs hp'
  unfold tknownS at hs
  split at hs
  · injection hs with hs; subst hs
    refine ⟨len_le (by kernel_rfl), ?_⟩
    have e1 : ∀ pr, tchgR 10000 ⟨unV (List.replicate 20 (Value.int .u8 0)), [], ⟨[65], [97], 5, [45, 48, 49, 48, 48]⟩, ⟨[65], [97], 5, [45, 48, 49, 48, 48]⟩, [], [109]⟩ zChgZ pr = some ⟨.tup [chgZ ⟨zr20, [65, 32, 60, 97, 62], 5, 0, [(gitW, bodyK)], [], [109]⟩, .int .i64 0], [], pr⟩ := fun pr => by
      have h : (⟨unV (List.replicate 20 (Value.int .u8 0)), [], ⟨[65], [97], 5, [45, 48, 49, 48, 48]⟩, ⟨[65], [97], 5, [45, 48, 49, 48, 48]⟩, [], [109]⟩ : ComL) = comK := rfl
      have h2 : aloneC comK = comK := rfl
      rw [h]
      unfold tchgR
      rw [if_pos comK_right, h2, of_K, plain_K]
    have k1 : tchgPre 10000 ⟨unV (List.replicate 20 (Value.int .u8 0)), [], ⟨[65], [97], 5, [45, 48, 49, 48, 48]⟩, ⟨[65], [97], 5, [45, 48, 49, 48, 48]⟩, [], [109]⟩ = True := eq_true K_pre
    have hK : ∀ kq, comZ kq comK = .agg [(20, .blob (zr20.map U)), (1, .sl kq []), (1, .str [65]), (1, .str [97]), (1, .int .i64 5), (1, .str [45, 48, 49, 48, 48]), (1, .str [65]), (1, .str [97]), (1, .int .i64 5), (1, .str [45, 48, 49, 48, 48]), (1, .sl 2 []), (1, .str [109])] := fun _ => rfl
    have e2 : ∀ pr, tcomR 10000 ⟨zr20, [65, 32, 60, 97, 62], 5, 0, [(gitW, bodyK)], [], [109]⟩ zComZ pr = some ⟨.tup [comZ (bkK 10000 ⟨zr20, [65, 32, 60, 97, 62], 5, 0, [(gitW, bodyK)], [], [109]⟩) comK, .int .i64 0], [], pr⟩ := fun pr => by
      unfold tcomR
      have h : ownH ⟨zr20, [65, 32, 60, 97, 62], 5, 0, [(gitW, bodyK)], [], [109]⟩ = ⟨zr20, [65, 32, 60, 97, 62], 5, 0, [(gitW, bodyK)], [], [109]⟩ := rfl
      rw [h, if_pos K_right, back_K]
    have k2 := eq_true K_pre2
    have hgw : decide (gitW = [103, 105, 116]) = true := rfl
    simp only [c_tknown, r_tknown, tchgS, tchgSz, tcomS, tcomSz, e1, e2, k2, hK, hgw, chgZ, k1, argC, argG, unV_U, unEx_ag, exV, List.map_cons, List.map_nil, go_sem, Nat.reduceDiv, Nat.reduceMod, ↓reduceIte, Nat.reduceEqDiff, Nat.reduceSub, Nat.reduceLT, Nat.reduceAdd, Nat.reduceLeDiff, reduceCtorEq, Int.reduceLT, Int.reduceLE, Int.reduceToNat]
    (repeat' apply And.intro)
    all_goals first | rfl | trivial | exact K_pre.1 | exact .inl trivial | exact .inr trivial | skip
  · cases hs
end Go.Proofs.YtgaehhechonegaaGreatDoor
namespace Go.Proofs.YtgaehhechonegaaGreatDoor
set_option linter.all false
open Go.RowKit
def c_ralone : ACode := (.seq (.reg none [⟨(some 1), (.box 28 31 (.t 0)), none⟩, ⟨(some 2), (.new 28 [(20, (.blob (List.replicate 20 (.int .u8 0)))), (1, (.con (.slice none 0 0))), (1, (.str [])), (1, (.str [])), (1, (.int .i64 0)), (1, (.str [])), (1, (.str [])), (1, (.str [])), (1, (.int .i64 0)), (1, (.str [])), (1, (.con (.slice none 0 0))), (1, (.str []))]), none⟩]) (.seq (.reg none [⟨(some 3), (.fa 21 (.t 1)), none⟩, ⟨(some 4), (.ld (.st 4) (.t 3)), none⟩, ⟨(some 5), (.fa 25 (.t 1)), none⟩, ⟨(some 6), (.ld (.st 4) (.t 5)), none⟩, ⟨(some 7), (.fa 29 (.t 1)), none⟩, ⟨(some 8), (.ld (.one (.con (.slice none 0 0))) (.t 7)), none⟩, ⟨(some 9), (.fa 30 (.t 1)), none⟩, ⟨(some 10), (.ld (.one (.str [])) (.t 9)), none⟩, ⟨(some 11), (.build [(20, (.blob (List.replicate 20 (.int .u8 0)))), (1, (.con (.slice none 0 0))), (1, (.str [])), (1, (.str [])), (1, (.int .i64 0)), (1, (.str [])), (1, (.str [])), (1, (.str [])), (1, (.int .i64 0)), (1, (.str [])), (1, (.con (.slice none 0 0))), (1, (.str []))] [(21, (4, (.t 4))), (25, (4, (.t 6))), (29, (1, (.t 8))), (30, (1, (.t 10)))]), none⟩, ⟨none, (.st (.st 31) (.t 2) (.t 11)), none⟩]) .ret))
def r_ralone : List ARes := [(.c 2 (.st 31))]
theorem s_ralone : slimF Tryz.prog Tryz.f23 = some (c_ralone, r_ralone) := by kernel_rfl
def c_rown : ACode := (.seq (.reg none [⟨(some 1), (.box 49 26 (.t 0)), none⟩, ⟨(some 2), (.new 49 [(20, (.blob (List.replicate 20 (.int .u8 0)))), (1, (.str [])), (1, (.int .i64 0)), (1, (.int .i64 0)), (1, (.con (.slice none 0 0))), (1, (.con (.slice none 0 0))), (1, (.str []))]), none⟩]) (.seq (.reg none [⟨(some 3), (.fa 20 (.t 1)), none⟩, ⟨(some 4), (.ld (.one (.str [])) (.t 3)), none⟩, ⟨(some 5), (.fa 21 (.t 1)), none⟩, ⟨(some 6), (.ld (.one (.int .i64 0)) (.t 5)), none⟩, ⟨(some 7), (.fa 22 (.t 1)), none⟩, ⟨(some 8), (.ld (.one (.int .i64 0)) (.t 7)), none⟩, ⟨(some 9), (.fa 23 (.t 1)), none⟩, ⟨(some 10), (.ld (.one (.con (.slice none 0 0))) (.t 9)), none⟩, ⟨(some 11), (.fa 25 (.t 1)), none⟩, ⟨(some 12), (.ld (.one (.str [])) (.t 11)), none⟩, ⟨(some 13), (.build [(20, (.blob (List.replicate 20 (.int .u8 0)))), (1, (.str [])), (1, (.int .i64 0)), (1, (.int .i64 0)), (1, (.con (.slice none 0 0))), (1, (.con (.slice none 0 0))), (1, (.str []))] [(20, (1, (.t 4))), (21, (1, (.t 6))), (22, (1, (.t 8))), (23, (1, (.t 10))), (25, (1, (.t 12)))]), none⟩, ⟨none, (.st (.st 26) (.t 2) (.t 13)), none⟩]) .ret))
def r_rown : List ARes := [(.c 2 (.st 26))]
theorem s_rown : slimF Tryz.prog Tryz.f21 = some (c_rown, r_rown) := by kernel_rfl
end Go.Proofs.YtgaehhechonegaaGreatDoor
namespace Go.Proofs.YtgaehhechonegaaGreatDoor
set_option linter.all false
open Go.RowKit
open Go.Lib (index hasPrefix trimPrefix cut indexAny itoa)
end Go.Proofs.YtgaehhechonegaaGreatDoor
namespace Go.Proofs.YtgaehhechonegaaGreatDoor
set_option linter.all false
open Go.RowKit
def b_rgsame_0 : ACode := (.seq (.seq (.reg none [⟨(some 58), (.mv (.t 5)), none⟩, ⟨(some 59), (.fa 23 (.t 2)), none⟩, ⟨(some 60), (.ld (.one (.con (.slice none 0 0))) (.t 59)), none⟩, ⟨(some 61), (.len none false (.t 60)), none⟩, ⟨(some 62), (.bin .lss (.t 58) (.t 61)), none⟩]) (.cond (.t 62) .skip (.exit 0))) (.seq (.block 1 (.seq (.reg (some [(0, false), (1, false), (2, false), (3, false), (4, false), (5, false), (6, false), (7, false), (8, false), (9, false), (10, true)]) [⟨(some 65), (.fa 23 (.t 2)), none⟩, ⟨(some 66), (.ld (.one (.con (.slice none 0 0))) (.t 65)), none⟩, ⟨(some 67), (.mv (.t 5)), none⟩, ⟨(some 68), (.ia 2 (.agg [(1, (.str [])), (1, (.str []))]) (.t 66) (.t 67)), none⟩, ⟨(some 69), (.ld (.st 2) (.t 68)), none⟩, ⟨(some 70), (.fa 23 (.t 3)), none⟩, ⟨(some 71), (.ld (.one (.con (.slice none 0 0))) (.t 70)), none⟩, ⟨(some 72), (.mv (.t 5)), none⟩, ⟨(some 73), (.ia 2 (.agg [(1, (.str [])), (1, (.str []))]) (.t 71) (.t 72)), none⟩, ⟨(some 74), (.ld (.st 2) (.t 73)), none⟩, ⟨(some 75), (.eqS true [(0, ((.one (.str [])), 0)), (1, ((.one (.str [])), 0))] (.t 69) (.t 74)), none⟩]) (.cond (.t 75) (.seq (.reg none [⟨(some 4), (.mv (.c (.bool false))), none⟩]) .ret) .skip))) (.reg none [⟨(some 63), (.mv (.t 5)), none⟩, ⟨(some 64), (.bin .add (.t 63) (.c (.int .i64 1))), none⟩, ⟨(some 5), (.mv (.t 64)), none⟩])))
def b_rgsame_1 : ACode := (.seq (.seq (.reg none [⟨(some 76), (.mv (.t 6)), none⟩, ⟨(some 77), (.fa 24 (.t 2)), none⟩, ⟨(some 78), (.ld (.one (.con (.slice none 0 0))) (.t 77)), none⟩, ⟨(some 79), (.len none false (.t 78)), none⟩, ⟨(some 80), (.bin .lss (.t 76) (.t 79)), none⟩]) (.cond (.t 80) .skip (.exit 2))) (.seq (.block 3 (.seq (.reg (some [(0, false), (1, false), (2, false), (3, false), (4, false), (5, false), (6, false), (7, false), (8, false), (9, false), (10, true)]) [⟨(some 83), (.fa 24 (.t 2)), none⟩, ⟨(some 84), (.ld (.one (.con (.slice none 0 0))) (.t 83)), none⟩, ⟨(some 85), (.mv (.t 6)), none⟩, ⟨(some 86), (.ia 1 (.str []) (.t 84) (.t 85)), none⟩, ⟨(some 87), (.ld (.one (.str [])) (.t 86)), none⟩, ⟨(some 88), (.fa 24 (.t 3)), none⟩, ⟨(some 89), (.ld (.one (.con (.slice none 0 0))) (.t 88)), none⟩, ⟨(some 90), (.mv (.t 6)), none⟩, ⟨(some 91), (.ia 1 (.str []) (.t 89) (.t 90)), none⟩, ⟨(some 92), (.ld (.one (.str [])) (.t 91)), none⟩, ⟨(some 93), (.bin .neq (.t 87) (.t 92)), none⟩]) (.cond (.t 93) (.seq (.reg none [⟨(some 4), (.mv (.c (.bool false))), none⟩]) .ret) .skip))) (.reg none [⟨(some 81), (.mv (.t 6)), none⟩, ⟨(some 82), (.bin .add (.t 81) (.c (.int .i64 1))), none⟩, ⟨(some 6), (.mv (.t 82)), none⟩])))
def t_rgsame_0 : ACode := (.seq (.reg none [⟨(some 4), (.mv (.c (.bool true))), none⟩]) .ret)
def t_rgsame_1 : ACode := (.seq (.seq (.reg none [⟨(some 6), (.mv (.c (.int .i64 0))), none⟩]) (.block 2 (.loop b_rgsame_1))) t_rgsame_0)
def c_rgsame : ACode := (.seq (.reg none [⟨(some 2), (.box 49 26 (.t 0)), none⟩, ⟨(some 3), (.box 49 26 (.t 1)), none⟩, ⟨(some 4), (.mv (.c (.bool false))), none⟩]) (.seq (.seq (.reg none [⟨(some 7), (.fa 0 (.t 2)), none⟩, ⟨(some 8), (.ld (.arr 20) (.t 7)), none⟩, ⟨(some 9), (.fa 0 (.t 3)), none⟩, ⟨(some 10), (.ld (.arr 20) (.t 9)), none⟩, ⟨(some 11), (.eqA true 20 (.t 8) (.t 10)), none⟩, ⟨(some 12), (.mv (.t 11)), none⟩, ⟨(some 13), (.fa 20 (.t 2)), (some (12, false))⟩, ⟨(some 14), (.ld (.one (.str [])) (.t 13)), (some (12, false))⟩, ⟨(some 15), (.fa 20 (.t 3)), (some (12, false))⟩, ⟨(some 16), (.ld (.one (.str [])) (.t 15)), (some (12, false))⟩, ⟨(some 17), (.bin .neq (.t 14) (.t 16)), (some (12, false))⟩, ⟨(some 18), (.pick (.t 12) (.c (.bool true)) (.t 17)), none⟩, ⟨(some 19), (.mv (.t 18)), none⟩, ⟨(some 20), (.fa 21 (.t 2)), (some (19, false))⟩, ⟨(some 21), (.ld (.one (.int .i64 0)) (.t 20)), (some (19, false))⟩, ⟨(some 22), (.fa 21 (.t 3)), (some (19, false))⟩, ⟨(some 23), (.ld (.one (.int .i64 0)) (.t 22)), (some (19, false))⟩, ⟨(some 24), (.bin .neq (.t 21) (.t 23)), (some (19, false))⟩, ⟨(some 25), (.pick (.t 19) (.c (.bool true)) (.t 24)), none⟩, ⟨(some 26), (.mv (.t 25)), none⟩, ⟨(some 27), (.fa 22 (.t 2)), (some (26, false))⟩, ⟨(some 28), (.ld (.one (.int .i64 0)) (.t 27)), (some (26, false))⟩, ⟨(some 29), (.fa 22 (.t 3)), (some (26, false))⟩, ⟨(some 30), (.ld (.one (.int .i64 0)) (.t 29)), (some (26, false))⟩, ⟨(some 31), (.bin .neq (.t 28) (.t 30)), (some (26, false))⟩, ⟨(some 32), (.pick (.t 26) (.c (.bool true)) (.t 31)), none⟩, ⟨(some 33), (.mv (.t 32)), none⟩, ⟨(some 34), (.fa 25 (.t 2)), (some (33, false))⟩, ⟨(some 35), (.ld (.one (.str [])) (.t 34)), (some (33, false))⟩, ⟨(some 36), (.fa 25 (.t 3)), (some (33, false))⟩, ⟨(some 37), (.ld (.one (.str [])) (.t 36)), (some (33, false))⟩, ⟨(some 38), (.bin .neq (.t 35) (.t 37)), (some (33, false))⟩, ⟨(some 39), (.pick (.t 33) (.c (.bool true)) (.t 38)), none⟩, ⟨(some 40), (.mv (.t 39)), none⟩, ⟨(some 41), (.fa 23 (.t 2)), (some (40, false))⟩, ⟨(some 42), (.ld (.one (.con (.slice none 0 0))) (.t 41)), (some (40, false))⟩, ⟨(some 43), (.len none false (.t 42)), (some (40, false))⟩, ⟨(some 44), (.fa 23 (.t 3)), (some (40, false))⟩, ⟨(some 45), (.ld (.one (.con (.slice none 0 0))) (.t 44)), (some (40, false))⟩, ⟨(some 46), (.len none false (.t 45)), (some (40, false))⟩, ⟨(some 47), (.bin .neq (.t 43) (.t 46)), (some (40, false))⟩, ⟨(some 48), (.pick (.t 40) (.c (.bool true)) (.t 47)), none⟩, ⟨(some 49), (.mv (.t 48)), none⟩, ⟨(some 50), (.fa 24 (.t 2)), (some (49, false))⟩, ⟨(some 51), (.ld (.one (.con (.slice none 0 0))) (.t 50)), (some (49, false))⟩, ⟨(some 52), (.len none false (.t 51)), (some (49, false))⟩, ⟨(some 53), (.fa 24 (.t 3)), (some (49, false))⟩, ⟨(some 54), (.ld (.one (.con (.slice none 0 0))) (.t 53)), (some (49, false))⟩, ⟨(some 55), (.len none false (.t 54)), (some (49, false))⟩, ⟨(some 56), (.bin .neq (.t 52) (.t 55)), (some (49, false))⟩, ⟨(some 57), (.pick (.t 49) (.c (.bool true)) (.t 56)), none⟩]) (.cond (.t 57) (.seq (.reg none [⟨(some 4), (.mv (.c (.bool false))), none⟩]) .ret) .skip)) (.seq (.seq (.reg none [⟨(some 5), (.mv (.c (.int .i64 0))), none⟩]) (.block 0 (.loop b_rgsame_0))) t_rgsame_1)))
def r_rgsame : List ARes := [(.t 4)]
theorem s_rgsame : slimF Tryz.prog Tryz.f14 = some (c_rgsame, r_rgsame) := by kernel_rfl
end Go.Proofs.YtgaehhechonegaaGreatDoor
namespace Go.Proofs.YtgaehhechonegaaGreatDoor
set_option linter.all false
open Go.RowKit
open Go.Lib (index hasPrefix cut indexAny itoa)
end Go.Proofs.YtgaehhechonegaaGreatDoor
namespace Go.Proofs.YtgaehhechonegaaGreatDoor
set_option linter.all false
open Go.RowKit
end Go.Proofs.YtgaehhechonegaaGreatDoor
namespace Go.Proofs.YtgaehhechonegaaGreatDoor
set_option linter.all false
open Go.RowKit
open Go.Lib (index hasPrefix cut indexAny itoa)
end Go.Proofs.YtgaehhechonegaaGreatDoor
namespace Go.Proofs.YtgaehhechonegaaGreatDoor
set_option linter.all false
open Go.RowKit
open Go.Lib (index hasPrefix cut indexAny itoa)
def raloneS : Spec := fun xs hp => match xs, hp with
  | [.agg [(20, .blob _), (1, .sl _ _), (1, .str an), (1, .str am), (1, .int .i64 at'), (1, .str az), (1, .str cn), (1, .str cm), (1, .int .i64 ct), (1, .str cz), (1, .sl ke es), (1, .str m)]], [] =>
    some ⟨.agg [(20, .blob (zr20.map U)), (1, .con (.slice none 0 0)), (1, .str an), (1, .str am), (1, .int .i64 at'), (1, .str az), (1, .str cn), (1, .str cm), (1, .int .i64 ct), (1, .str cz), (1, .sl ke es), (1, .str m)], [], True⟩
  | _, _ => none
theorem ralone_ok : FnOk Tryz.prog 23 raloneS := by
  refine fn_slim2 Tryz.func23 s_ralone (Φ := phiL []) phi_nil ?_
  intro xs hp r hs hp'
  unfold raloneS at hs
  split at hs
  · injection hs with hs; subst hs
    refine ⟨len_le (by kernel_rfl), ?_⟩
    simp only [c_ralone, r_ralone, go_sem, Nat.reduceDiv, Nat.reduceMod, ↓reduceIte, Nat.reduceSub, Nat.reduceAdd, Nat.reduceLeDiff, reduceCtorEq]
    repeat' apply And.intro
    all_goals first | rfl | trivial
  · cases hs
def rownS : Spec := fun xs hp => match xs, hp with
  | [.agg [(20, .blob _), (1, .str u), (1, .int .i64 t), (1, .int .i64 z), (1, .sl ke es), (1, .sl _ _), (1, .str d)]], [] =>
    some ⟨.agg [(20, .blob (zr20.map U)), (1, .str u), (1, .int .i64 t), (1, .int .i64 z), (1, .sl ke es), (1, .con (.slice none 0 0)), (1, .str d)], [], True⟩
  | _, _ => none
theorem rown_ok : FnOk Tryz.prog 21 rownS := by
  refine fn_slim2 Tryz.func21 s_rown (Φ := phiL []) phi_nil ?_
  intro xs hp r hs hp'
  unfold rownS at hs
  split at hs
  · injection hs with hs; subst hs
    refine ⟨len_le (by kernel_rfl), ?_⟩
    simp only [c_rown, r_rown, go_sem, Nat.reduceDiv, Nat.reduceMod, ↓reduceIte, Nat.reduceSub, Nat.reduceAdd, Nat.reduceLeDiff, reduceCtorEq]
    repeat' apply And.intro
    all_goals first | rfl | trivial
  · cases hs
end Go.Proofs.YtgaehhechonegaaGreatDoor
namespace Go.Proofs.YtgaehhechonegaaGreatDoor
set_option linter.all false
open Go.RowKit
open Go.Lib (index hasPrefix cut indexAny itoa)
end Go.Proofs.YtgaehhechonegaaGreatDoor
namespace Go.Proofs.YtgaehhechonegaaGreatDoor
set_option linter.all false
open Go.RowKit
open Go.Lib (index hasPrefix cut indexAny itoa)
end Go.Proofs.YtgaehhechonegaaGreatDoor
namespace Go.Proofs.YtgaehhechonegaaGreatDoor
set_option linter.all false
open Go.RowKit
open Go.Lib (index hasPrefix cut indexAny itoa decDigits)
end Go.Proofs.YtgaehhechonegaaGreatDoor
namespace Go.Proofs.YtgaehhechonegaaGreatDoor
set_option linter.all false
open Go.RowKit
open Go.Lib (index hasPrefix cut indexAny itoa)
end Go.Proofs.YtgaehhechonegaaGreatDoor
namespace Go.Proofs.YtgaehhechonegaaGreatDoor
set_option linter.all false
open Go.RowKit
def sameH (c d : ChgL) : Bool := decide (c.man = d.man) && decide (c.user = d.user) && decide (c.time = d.time) && decide (c.zone = d.zone) && decide (c.desc = d.desc) && decide (c.extras = d.extras) && decide (c.files = d.files)
theorem sameH_iff {c d : ChgL} : sameH c d = true ↔ c = d := by
  cases c; cases d; simp [sameH]; constructor
  · rintro ⟨⟨⟨⟨⟨⟨rfl, rfl⟩, rfl⟩, rfl⟩, rfl⟩, rfl⟩, rfl⟩; simp
  · rintro ⟨rfl, rfl, rfl, rfl, rfl, rfl, rfl⟩; simp
theorem sameH_self (c : ChgL) : sameH c c = true := sameH_iff.2 rfl
def argS7 (m : List Value) (ke : Nat) (es : List AV) (kf : Nat) (fs : List AV) : Prop := m = (unV m).map U ∧ es = (es.map unEx).map exV ∧ fs = (fs.map unS).map AV.str ∧ (ke = 2 ∨ es = []) ∧ (kf = 1 ∨ fs = []) ∧ (unV m).length = 20 ∧ es.length ≤ 1000000 ∧ fs.length ≤ 1000000
def rgsameS : Spec := fun xs hp => match xs, hp with
  | [.agg [(20, .blob m), (1, .str u), (1, .int .i64 t), (1, .int .i64 z), (1, .sl ke es), (1, .sl kf fs), (1, .str d)], .agg [(20, .blob m2), (1, .str u2), (1, .int .i64 t2), (1, .int .i64 z2), (1, .sl ke2 es2), (1, .sl kf2 fs2), (1, .str d2)]], [] =>
    some ⟨.bool (sameH ⟨unV m, u, t, z, es.map unEx, fs.map unS, d⟩ ⟨unV m2, u2, t2, z2, es2.map unEx, fs2.map unS, d2⟩), [], argS7 m ke es kf fs ∧ argS7 m2 ke2 es2 kf2 fs2⟩
  | _, _ => none
theorem takeX_succ {α : Type} {l m : List α} {i : Nat} (h : l.take i = m.take i) (hi : i < l.length) (hj : i < m.length) (e : l[i] = m[i]) : l.take (i + 1) = m.take (i + 1) := by
  rw [List.take_add_one, List.take_add_one, h, List.getElem?_eq_getElem hi, List.getElem?_eq_getElem hj, e]
set_option maxHeartbeats 4000000 in
theorem rgsame_ok : FnOk Tryz.prog 14 rgsameS := by
  refine fn_slim2 Tryz.func14 s_rgsame (Φ := phiL []) phi_nil ?_
  intro xs hp r hs hp'
  unfold rgsameS at hs
  split at hs
  · injection hs with hs; subst hs
    rename_i m u t z ke es kf fs d m2 u2 t2 z2 ke2 es2 kf2 fs2 d2
    obtain ⟨⟨q1, q2, q3, q4, q5, q6, q7, q8⟩, w1, w2, w3, w4, w5, w6, w7, w8⟩ := hp'
    generalize unV m = m at *
    subst q1
    generalize es.map unEx = es at *
    subst q2
    generalize fs.map unS = fs at *
    subst q3
    generalize unV m2 = m2 at *
    subst w1
    generalize es2.map unEx = es2 at *
    subst w2
    generalize fs2.map unS = fs2 at *
    subst w3
    rw [List.length_map] at q7 q8 w7 w8
    refine ⟨len_le (by kernel_rfl), ?_⟩
    unfold sameH
    simp only
    cases h1 : decide (m = m2) with
    | false =>
      simp only [c_rgsame, h1, r_rgsame, unV_U, Bool.false_and, go_sem, Nat.reduceDiv, Nat.reduceMod, ↓reduceIte, Nat.reduceAdd]
      (repeat' apply And.intro); all_goals first | exact q6 | exact w6 | omega | rfl | skip
    | true =>
    cases h2 : decide (u = u2) with
    | false =>
      simp only [c_rgsame, h1, h2, r_rgsame, unV_U, Bool.false_and, Bool.and_false, go_sem, Nat.reduceDiv, Nat.reduceMod, ↓reduceIte, Nat.reduceSub, Nat.reduceAdd, reduceCtorEq]
      (repeat' apply And.intro); all_goals first | exact q6 | exact w6 | omega | rfl | skip
    | true =>
    cases h3 : decide (t = t2) with
    | false =>
      simp only [c_rgsame, h1, h2, h3, r_rgsame, unV_U, Bool.false_and, Bool.and_false, Bool.true_and, go_sem, Nat.reduceDiv, Nat.reduceMod, ↓reduceIte, Nat.reduceSub, Nat.reduceAdd, Nat.reduceLeDiff, reduceCtorEq]
      (repeat' apply And.intro); all_goals first | exact q6 | exact w6 | omega | rfl | skip
    | true =>
    cases h4 : decide (z = z2) with
    | false =>
      simp only [c_rgsame, h1, h2, h3, h4, r_rgsame, unV_U, Bool.false_and, Bool.and_false, Bool.true_and, go_sem, Nat.reduceDiv, Nat.reduceMod, ↓reduceIte, Nat.reduceSub, Nat.reduceAdd, Nat.reduceLeDiff, reduceCtorEq]
      (repeat' apply And.intro); all_goals first | exact q6 | exact w6 | omega | rfl | skip
    | true =>
    cases h5 : decide (d = d2) with
    | false =>
      simp only [c_rgsame, h1, h2, h3, h4, h5, r_rgsame, unV_U, Bool.false_and, Bool.and_false, Bool.true_and, go_sem, Nat.reduceDiv, Nat.reduceMod, ↓reduceIte, Nat.reduceSub, Nat.reduceAdd, Nat.reduceLeDiff, reduceCtorEq]
      (repeat' apply And.intro); all_goals first | exact q6 | exact w6 | omega | rfl | skip
    | true =>
    by_cases h6 : es.length = es2.length
    rotate_left
    · have d6 : decide ((es.length : Int) = (es2.length : Int)) = false := decide_eq_false (by omega)
      have e : decide (es = es2) = false := decide_eq_false (by rintro rfl; exact h6 rfl)
      simp only [c_rgsame, h1, h2, h3, h4, h5, d6, e, r_rgsame, unV_U, List.length_map, Bool.false_and, Bool.and_false, Bool.true_and, go_sem, Nat.reduceDiv, Nat.reduceMod, ↓reduceIte, Nat.reduceSub, Nat.reduceAdd, Nat.reduceLeDiff, reduceCtorEq]
      (repeat' apply And.intro); all_goals first | exact q6 | exact w6 | omega | rfl | skip
    have d6 : decide ((es.length : Int) = (es2.length : Int)) = true := decide_eq_true (by omega)
    by_cases h7 : fs.length = fs2.length
    rotate_left
    · have d7 : decide ((fs.length : Int) = (fs2.length : Int)) = false := decide_eq_false (by omega)
      have e : decide (fs = fs2) = false := decide_eq_false (by rintro rfl; exact h7 rfl)
      simp only [c_rgsame, h1, h2, h3, h4, h5, d6, d7, e, r_rgsame, unV_U, List.length_map, Bool.and_false, Bool.true_and, go_sem, Nat.reduceDiv, Nat.reduceMod, ↓reduceIte, Nat.reduceSub, Nat.reduceAdd, Nat.reduceLeDiff, reduceCtorEq]
      (repeat' apply And.intro); all_goals first | exact q6 | exact w6 | omega | rfl | skip
    have d7 : decide ((fs.length : Int) = (fs2.length : Int)) = true := decide_eq_true (by omega)
    simp only [c_rgsame, h1, h2, h3, h4, h5, d6, d7, unV_U, Bool.true_and, List.length_map, go_sem, Nat.reduceDiv, Nat.reduceMod, ↓reduceIte, Nat.reduceSub, Nat.reduceAdd, Nat.reduceLeDiff, reduceCtorEq]
    refine ⟨⟨q6, w6⟩, ?_⟩
    refine loop2P [] [2, 3, 5] [0, 1] (fun i : Nat => ⟨[(2, .ref 0 0 0), (3, .ref 1 0 0), (5, .int .i64 (i : Int))], [.cells 49 [(20, .blob (m.map U)), (1, .str u), (1, .int .i64 t), (1, .int .i64 z), (1, .sl ke (es.map exV)), (1, .sl kf (fs.map AV.str)), (1, .str d)], .cells 49 [(20, .blob (m2.map U)), (1, .str u2), (1, .int .i64 t2), (1, .int .i64 z2), (1, .sl ke2 (es2.map exV)), (1, .sl kf2 (fs2.map AV.str)), (1, .str d2)]]⟩)
      (fun i => i ≤ es.length ∧ es.take i = es2.take i) (fun i => es.length - i) 0 rfl ⟨Nat.zero_le _, by simp⟩ ⟨rfl, by rfl⟩ (fun j hj R hR => ?_)
    obtain ⟨j1, j2⟩ := hj
    by_cases hjl : j < es.length
    · have c1 : decide ((j : Int) < (es.length : Int)) = true := decide_eq_true (by omega)
      have hk : ke = 2 := q4.resolve_right (by intro h; have := congrArg List.length h; simp at this; rw [this] at hjl; simp at hjl)
      have hk2 : ke2 = 2 := w4.resolve_right (by intro h; have := congrArg List.length h; simp at this; rw [this] at h6; simp at h6; rw [h6] at hjl; simp at hjl)
      subst hk hk2
      have hget := getD_map exV es ([], []) (.agg [(1, (.str [])), (1, (.str []))]) hjl
      have hga : es.getD j ([], []) = es[j] := by simp [List.getD_eq_getElem?_getD, List.getElem?_eq_getElem hjl]
      have hget2 := getD_map exV es2 ([], []) (.agg [(1, (.str [])), (1, (.str []))]) (show j < es2.length by omega)
      have hga2 : es2.getD j ([], []) = es2[j] := by simp [List.getD_eq_getElem?_getD, List.getElem?_eq_getElem (show j < es2.length by omega)]
      have hpe : (decide (es[j].1 = es2[j].1) && decide (es[j].2 = es2[j].2)) = decide (es[j] = es2[j]) := by
        rw [Bool.eq_iff_iff]; simp [Prod.ext_iff]
      cases hx : decide (es[j] = es2[j]) with
      | false =>
        have e : decide (es = es2) = false := decide_eq_false (by rintro rfl; exact (of_decide_eq_false hx) rfl)
        rw [e]
        simp only [b_rgsame_0, r_rgsame, c1, hget, hga, hget2, hga2, exV, hpe, hx, Int.toNat_natCast, List.length_map, go_sem, Nat.reduceDiv, Nat.reduceMod, ↓reduceIte, Nat.reduceSub, Nat.reduceAdd, Nat.reduceLeDiff, reduceCtorEq]
        repeat' apply And.intro
        all_goals first | omega | rfl | trivial | skip
      | true =>
        simp only [b_rgsame_0, r_rgsame, c1, hget, hga, hget2, hga2, exV, hpe, hx, Int.toNat_natCast, List.length_map, go_sem, Nat.reduceDiv, Nat.reduceMod, ↓reduceIte, Nat.reduceSub, Nat.reduceAdd, Nat.reduceLeDiff, reduceCtorEq]
        refine ⟨⟨by omega, by omega⟩, ⟨by omega, by omega⟩, ⟨by omega, by omega⟩, hR _ (j + 1) ⟨by omega, takeX_succ j2 hjl (by omega) (of_decide_eq_true hx)⟩ (by omega) rfl⟩
    have c1 : decide ((j : Int) < (es.length : Int)) = false := decide_eq_false (by omega)
    have e1 : es = es2 := by
      rw [List.take_of_length_le (by omega), List.take_of_length_le (by omega)] at j2; exact j2
    have e : decide (es = es2) = true := decide_eq_true e1
    rw [e]
    simp only [b_rgsame_0, t_rgsame_1, c1, Bool.true_and, List.length_map, go_sem, Nat.reduceDiv, Nat.reduceMod, ↓reduceIte, Nat.reduceSub, Nat.reduceAdd, Nat.reduceLeDiff, reduceCtorEq]
    clear hR R
    refine loop2P [] [2, 3, 6] [0, 1] (fun i : Nat => ⟨[(2, .ref 0 0 0), (3, .ref 1 0 0), (6, .int .i64 (i : Int))], [.cells 49 [(20, .blob (m.map U)), (1, .str u), (1, .int .i64 t), (1, .int .i64 z), (1, .sl ke (es.map exV)), (1, .sl kf (fs.map AV.str)), (1, .str d)], .cells 49 [(20, .blob (m2.map U)), (1, .str u2), (1, .int .i64 t2), (1, .int .i64 z2), (1, .sl ke2 (es2.map exV)), (1, .sl kf2 (fs2.map AV.str)), (1, .str d2)]]⟩)
      (fun i => i ≤ fs.length ∧ fs.take i = fs2.take i) (fun i => fs.length - i) 0 rfl ⟨Nat.zero_le _, by simp⟩ ⟨rfl, by rfl⟩ (fun i hi R hR => ?_)
    obtain ⟨i1, i2⟩ := hi
    by_cases hil : i < fs.length
    · have c1 : decide ((i : Int) < (fs.length : Int)) = true := decide_eq_true (by omega)
      have hk : kf = 1 := q5.resolve_right (by intro h; have := congrArg List.length h; simp at this; rw [this] at hil; simp at hil)
      have hk2 : kf2 = 1 := w5.resolve_right (by intro h; have := congrArg List.length h; simp at this; rw [this] at h7; simp at h7; rw [h7] at hil; simp at hil)
      subst hk hk2
      have hget := getD_map AV.str fs [] (AV.str []) hil
      have hga : fs.getD i [] = fs[i] := by simp [List.getD_eq_getElem?_getD, List.getElem?_eq_getElem hil]
      have hget2 := getD_map AV.str fs2 [] (AV.str []) (show i < fs2.length by omega)
      have hga2 : fs2.getD i [] = fs2[i] := by simp [List.getD_eq_getElem?_getD, List.getElem?_eq_getElem (show i < fs2.length by omega)]
      cases hx : decide (fs[i] = fs2[i]) with
      | false =>
        have e : decide (fs = fs2) = false := decide_eq_false (by rintro rfl; exact (of_decide_eq_false hx) rfl)
        rw [e]
        simp only [b_rgsame_1, r_rgsame, c1, hget, hga, hget2, hga2, hx, Int.toNat_natCast, List.length_map, go_sem, Nat.reduceDiv, Nat.reduceMod, ↓reduceIte, Nat.reduceSub, Nat.reduceAdd, Nat.reduceLeDiff, reduceCtorEq]
        repeat' apply And.intro
        all_goals first | omega | rfl | trivial | skip
      | true =>
        simp only [b_rgsame_1, r_rgsame, c1, hget, hga, hget2, hga2, hx, Int.toNat_natCast, List.length_map, go_sem, Nat.reduceDiv, Nat.reduceMod, ↓reduceIte, Nat.reduceSub, Nat.reduceAdd, Nat.reduceLeDiff, reduceCtorEq]
        refine ⟨⟨by omega, by omega⟩, ⟨by omega, by omega⟩, ⟨by omega, by omega⟩, hR _ (i + 1) ⟨by omega, takeX_succ i2 hil (by omega) (of_decide_eq_true hx)⟩ (by omega) rfl⟩
    · have c1 : decide ((i : Int) < (fs.length : Int)) = false := decide_eq_false (by omega)
      have e1 : fs = fs2 := by
        rw [List.take_of_length_le (by omega), List.take_of_length_le (by omega)] at i2; exact i2
      have e : decide (fs = fs2) = true := decide_eq_true e1
      rw [e]
      simp only [b_rgsame_1, t_rgsame_0, r_rgsame, c1, List.length_map, go_sem, Nat.reduceDiv, Nat.reduceMod, ↓reduceIte, Nat.reduceSub, Nat.reduceAdd, Nat.reduceLeDiff, reduceCtorEq]
  · cases hs
end Go.Proofs.YtgaehhechonegaaGreatDoor
namespace Go.Proofs.YtgaehhechonegaaGreatDoor
set_option linter.all false
open Go.RowKit
open Go.Lib (index hasPrefix trimPrefix cut indexAny itoa)
end Go.Proofs.YtgaehhechonegaaGreatDoor
namespace Go.Proofs.YtgaehhechonegaaGreatDoor
set_option linter.all false
open Go.RowKit
open Go.Lib (index hasPrefix trimPrefix cut indexAny itoa)
end Go.Proofs.YtgaehhechonegaaGreatDoor
namespace Go.Proofs.YtgaehhechonegaaGreatDoor
set_option linter.all false
open Go.RowKit
open Go.Lib (index hasPrefix trimPrefix cut indexAny itoa)
end Go.Proofs.YtgaehhechonegaaGreatDoor
namespace Go.Proofs.YtgaehhechonegaaGreatDoor
set_option linter.all false
open Go.RowKit
open Go.Lib (itoa)
noncomputable def tlchgS : Spec := fun xs hp => match xs, hp with
  | [.agg [(20, .blob t), (1, .sl kq ps), (1, .str an), (1, .str am), (1, .int .i64 at'), (1, .str az), (1, .str cn), (1, .str cm), (1, .int .i64 ct), (1, .str cz), (1, .sl ke es), (1, .str m)]], [] =>
    some ⟨.bool true, [], argC t kq ps ke es ∧ comB ⟨unV t, ps.map unId, ⟨an, am, at', az⟩, ⟨cn, cm, ct, cz⟩, es.map unEx, m⟩⟩
  | _, _ => none
theorem zr_len : zr20.length = 20 := rfl
end Go.Proofs.YtgaehhechonegaaGreatDoor
namespace Go.Proofs.YtgaehhechonegaaGreatDoor
set_option linter.all false
open Go.RowKit Go.ChangeShapes Go.WideShapes Go.ChangeAt Go.Deep
def chgPs (m u : List UInt8) (t z : Int) (E F : AV) (d : List UInt8) : List (Nat × AV) := [(20, .blob (m.map U)), (1, .str u), (1, .int .i64 t), (1, .int .i64 z), (1, E), (1, F), (1, .str d)]
def chgAV (c : ChgL) : AV := .agg (chgPs c.man c.user c.time c.zone (.sl 2 (c.extras.map exV)) (.sl 1 (c.files.map AV.str)) c.desc)
def chgAB (c : ChgL) : Prop := c.man.length = 20 ∧ c.user.length ≤ 9223372036854775807 ∧ inI c.time ∧ inI c.zone ∧ c.extras.length ≤ 9223372036854775807 ∧ (∀ x ∈ c.extras, x.1.length ≤ 9223372036854775807 ∧ x.2.length ≤ 9223372036854775807) ∧
  c.files.length ≤ 9223372036854775807 ∧ (∀ f ∈ c.files, f.length ≤ 9223372036854775807) ∧ c.desc.length ≤ 9223372036854775807
def ChgArg (w : World) (v : Value) : Prop := ∃ c : ChgL, (∀ ρ, Vl1 w (fun b => b < w.heap.size) ρ (chgAV c) v) ∧ chgAB c
section
variable {H : Type} {enc : TypeId × Value → H} {P : Program} {w : World} {base : Nat} {spare : Nat → Bool} {held : Bool}
theorem trod_struct7 {t : TypeId} {f0 f1 f2 f3 f4 f5 f6 : Field} {fuel : Nat} {cs : List Value} {x : DataW H × List MemPlace} (ht : P.underlying t = some (.struct #[f0, f1, f2, f3, f4, f5, f6])) (h : DataW.trod enc P w base spare held fuel t cs = some x) :
    ∃ y0 y1 y2 y3 y4 y5 y6 n, DataW.trod enc P w base spare held n f0.type ((cs.drop f0.offset).take (P.cellsOf f0.type)) = some y0 ∧
      DataW.trod enc P w base spare held n f1.type ((cs.drop f1.offset).take (P.cellsOf f1.type)) = some y1 ∧ DataW.trod enc P w base spare held n f2.type ((cs.drop f2.offset).take (P.cellsOf f2.type)) = some y2 ∧
      DataW.trod enc P w base spare held n f3.type ((cs.drop f3.offset).take (P.cellsOf f3.type)) = some y3 ∧ DataW.trod enc P w base spare held n f4.type ((cs.drop f4.offset).take (P.cellsOf f4.type)) = some y4 ∧
      DataW.trod enc P w base spare held n f5.type ((cs.drop f5.offset).take (P.cellsOf f5.type)) = some y5 ∧ DataW.trod enc P w base spare held n f6.type ((cs.drop f6.offset).take (P.cellsOf f6.type)) = some y6 := by
  obtain ⟨xs, n, _, rfl, hl, hlen, hf⟩ := DataW.trod_struct ht h
  match xs, hlen with
  | [y0, y1, y2, y3, y4, y5, y6], _ => exact ⟨y0, y1, y2, y3, y4, y5, y6, n, by simpa using hf 0 f0 rfl, by simpa using hf 1 f1 rfl, by simpa using hf 2 f2 rfl, by simpa using hf 3 f3 rfl, by simpa using hf 4 f4 rfl, by simpa using hf 5 f5 rfl, by simpa using hf 6 f6 rfl⟩
theorem trod_int1 {t : TypeId} {fuel : Nat} {cs : List Value} {x : DataW H × List MemPlace} (ht : P.underlying t = some (.int .i64)) (h : DataW.trod enc P w base spare held fuel t cs = some x) : ∃ i : Int, cs = [.int .i64 i] ∧ inI i := by
  obtain ⟨i, e, _, wi⟩ := DataW.trod_int ht h
  refine ⟨i, e, ?_⟩
  have h4 : (Lit.int .i64 i).wf = true := wi
  simp [Lit.wf, IntKind.min, IntKind.max, IntKind.signed, IntKind.bits] at h4
  unfold inI
  omega
theorem trod_str1 {t : TypeId} {fuel : Nat} {cs : List Value} {x : DataW H × List MemPlace} (ht : P.underlying t = some .string) (h : DataW.trod enc P w base spare held fuel t cs = some x) : ∃ l : List UInt8, cs = [.string ⟨l.toArray⟩] ∧ l.length ≤ 9223372036854775807 := by
  obtain ⟨⟨⟨l⟩⟩, e, _, hl⟩ := DataW.trod_string ht h
  exact ⟨l, e, by simpa [ByteArray.size, maxLen] using hl⟩
theorem open_chg {r : Reach} {b0 : Nat} {t ta e tx te tf ts : TypeId} {f0 f1 f2 f3 f4 f5 f6 h0 h1 : Field} {v : Value} {d : DataW H} {ps : List MemPlace} (ht : P.underlying t = some (.struct #[f0, f1, f2, f3, f4, f5, f6]))
    (o0 : f0.offset = 0) (o1 : f1.offset = 20) (o2 : f2.offset = 21) (o3 : f3.offset = 22) (o4 : f4.offset = 23) (o5 : f5.offset = 24) (o6 : f6.offset = 25) (hta : f0.type = ta) (htx : f4.type = tx) (htf : f5.type = tf)
    (ha : P.underlying ta = some (.array 20 e)) (he : P.underlying e = some (.int .u8)) (hx : P.underlying tx = some (.slice te)) (hex : P.underlying te = some (.struct #[h0, h1])) (q0 : h0.offset = 0) (q1 : h1.offset = 1) (hf : P.underlying tf = some (.slice ts)) (hs : P.underlying ts = some .string)
    (s1 : P.underlying f1.type = some .string) (s2 : P.underlying f2.type = some (.int .i64)) (s3 : P.underlying f3.type = some (.int .i64)) (s6 : P.underlying f6.type = some .string) (u0 : P.underlying h0.type = some .string) (u1 : P.underlying h1.type = some .string)
    (hce : P.cellsOf e = 1) (hca : P.cellsOf ta = 20) (hcx : P.cellsOf te = 2) (hcs : P.cellsOf ts = 1) (hct : P.cellsOf t = 26) (d1 : P.cellsOf f1.type = 1) (d2 : P.cellsOf f2.type = 1) (d3 : P.cellsOf f3.type = 1) (d4 : P.cellsOf tx = 1) (d5 : P.cellsOf tf = 1) (d6 : P.cellsOf f6.type = 1)
    (b0' : P.cellsOf h0.type = 1) (b1' : P.cellsOf h1.type = 1)
    (hval : Value.okWide P w r b0 t v) (hd : DataW.Trod enc P w base spare held t v d ps) : ChgArg w v := by
  simp only [Value.okWide, ht] at hval
  obtain ⟨cs, rfl, z2, _⟩ := hval
  rw [hct] at z2
  obtain ⟨fuel, hf0⟩ := hd
  obtain ⟨y0, y1, y2, y3, y4, y5, y6, n, k0, k1, k2, k3, k4, k5, k6⟩ := trod_struct7 ht hf0
  simp only [Value.cells] at k0 k1 k2 k3 k4 k5 k6
  obtain ⟨c⟩ := cs
  simp only at z2 k0 k1 k2 k3 k4 k5 k6
  have hc : c.length = 26 := by simpa using z2
  rw [o0, hta, hca] at k0
  rw [o1, d1] at k1
  rw [o2, d2] at k2
  rw [o3, d3] at k3
  rw [o4, htx, d4] at k4
  rw [o5, htf, d5] at k5
  rw [o6, d6] at k6
  obtain ⟨o, e0, l0⟩ := trod_id ha he hce hca k0
  obtain ⟨us, e1, l1⟩ := trod_str1 s1 k1
  obtain ⟨i2, e2, l2⟩ := trod_int1 s2 k2
  obtain ⟨i3, e3, l3⟩ := trod_int1 s3 k3
  obtain ⟨ds, e6, l6⟩ := trod_str1 s6 k6
  obtain ⟨v4, xl, e4, j4, n4, m4⟩ := open_sl (S := fun b => b < w.heap.size) (ρ := rho0) (fun _ h => h) hx hcx (by decide) exV (fun a => a.1.length ≤ 9223372036854775807 ∧ a.2.length ≤ 9223372036854775807) (fun fuel cs x h => trod_ex hex q0 q1 u0 u1 b0' b1' hcx h) k4
  obtain ⟨v5, fl, e5, j5, n5, m5⟩ := open_sl (S := fun b => b < w.heap.size) (ρ := rho0) (fun _ h => h) hf hcs (by decide) AV.str (fun a => a.length ≤ 9223372036854775807) (fun fuel cs x h => by
    obtain ⟨l, rfl, hl⟩ := trod_str1 hs h
    exact ⟨l, .str l, rfl, hl⟩) k5
  have hsp : c = o.map U ++ ([.string ⟨us.toArray⟩] ++ ([.int .i64 i2] ++ ([.int .i64 i3] ++ ([v4] ++ ([v5] ++ [.string ⟨ds.toArray⟩]))))) := by
    rw [← e0, ← e1, ← e2, ← e3, ← e4, ← e5, ← e6]
    conv => lhs; rw [← List.drop_zero (l := c), drop_split c 0 20, Nat.zero_add, drop_split c 20 1, drop_split c 21 1, drop_split c 22 1, drop_split c 23 1, drop_split c 24 1, drop_split c 25 1, List.drop_of_length_le (i := 25 + 1) (by omega)]
    simp
  subst hsp
  refine ⟨⟨o, us, i2, i3, xl, fl, ds⟩, fun ρ => ?_, l0, l1, l2, l3, n4, m4, n5, m5, l6⟩
  have g4 : Cs w (fun b => b < w.heap.size) ρ (.sl 2 (xl.map exV)) [v4] := j4.ext (fun _ _ => rfl) (fun _ h => h) (fun _ _ _ h => by cases h)
  have g5 : Cs w (fun b => b < w.heap.size) ρ (.sl 1 (fl.map AV.str)) [v5] := j5.ext (fun _ _ => rfl) (fun _ h => h) (fun _ _ _ h => by cases h)
  refine .inr ⟨_, ?_, rfl⟩
  exact Css.cs ⟨o.map U, _, rfl, by simpa using l0, .blob _ (fun u hu => by obtain ⟨x, _, rfl⟩ := List.mem_map.1 hu; rfl), [.string ⟨us.toArray⟩], _, rfl, rfl, .str us, [.int .i64 i2], _, rfl, rfl, .int .i64 i2, [.int .i64 i3], _, rfl, rfl, .int .i64 i3,
    [v4], _, rfl, rfl, g4, [v5], _, rfl, rfl, g5, [.string ⟨ds.toArray⟩], [], rfl, rfl, .str ds, rfl⟩
end
end Go.Proofs.YtgaehhechonegaaGreatDoor
namespace Go.Proofs.YtgaehhechonegaaGreatDoor
set_option linter.all false
open Go.RowKit
open Go.Lib (itoa)
theorem toH_sz (c : ChgL) (h : chgB9 c) : sizeH (ownH (toH c)) ∧ szH (ownH (toH c)) ∧ mz (toH c).extras ≤ 10000 := by
  obtain ⟨⟨s1, s2, s3, s4, s5, s6, s7, s8, s9, s10, s11⟩, -⟩ := toH_size c h
  obtain ⟨h1, h2, h3, h4, h5, h6, h7, h8, h9⟩ := h
  have u1 : (toH c).user.length ≤ 200 := by simp only [toH, List.length_take]; omega
  have d1 : (toH c).desc.length ≤ 500 := by simp only [toH, List.length_take]; omega
  have e1 : (toH c).extras.length ≤ 20 := by simp only [toH, List.length_map, List.length_take]; omega
  have e2 : ∀ x ∈ (toH c).extras, x.1.length ≤ 200 ∧ x.2.length ≤ 200 := by
    intro x hx
    obtain ⟨y, _, rfl⟩ := List.mem_map.1 hx
    simp only [exCut, List.length_take]; omega
  generalize toH c = d at *
  have l1 := Lib.itoa_length_le d.time s10.1 s10.2
  have l2 := Lib.itoa_length_le d.zone s11.1 s11.2
  have hw := wExt_le d.extras e2
  have hf := flat_ex d.extras
  have hm := mz_le d.extras 200 fun x hx => (e2 x hx).2
  have hw2 : 402 * d.extras.length ≤ 402 * 20 := Nat.mul_le_mul_left _ e1
  have hm2 : 200 * d.extras.length ≤ 200 * 20 := Nat.mul_le_mul_left _ e1
  refine ⟨⟨rfl, s2, s3, by show (0 : Nat) ≤ _; omega, s5, fun f hf => (by cases hf), s7, by show (0 : Nat) ≤ _; omega, s9, s10, s11⟩, ⟨?_, by show d.desc.length ≤ 90000; omega⟩, by omega⟩
  unfold wordsT ownH
  simp only [List.length_append, List.length_cons]
  omega
noncomputable def tlcomS : Spec := fun xs hp => match xs, hp with
  | [.agg [(20, .blob m), (1, .str u), (1, .int .i64 t), (1, .int .i64 z), (1, .sl ke es), (1, .sl kf fs), (1, .str d)]], [] =>
    some ⟨.bool true, [], argG m ke es kf fs ∧ chgB9 ⟨unV m, u, t, z, es.map unEx, fs.map unS, d⟩⟩
  | _, _ => none
end Go.Proofs.YtgaehhechonegaaGreatDoor
namespace Go.Proofs.YtgaehhechonegaaGreatDoor
set_option linter.all false
open Go.RowKit
open Go.Lib (itoa)
theorem toC_sz2 (c : ComL) (h : comB c) : (bodyC (noM (aloneC (toC c)))).length ≤ 27000 := by
  obtain ⟨h1, h2, h3, h4, h5, h6, h7, h8, h9, h10⟩ := toC_len c h
  generalize toC c = d at *
  have hw := wExt_le d.extras h5
  have hf := flat_ex d.extras
  have hw2 : 402 * d.extras.length ≤ 402 * 20 := Nat.mul_le_mul_left _ h4
  have t1 := textW_le (w := d.author) h9
  have t2 := textW_le (w := d.committer) h10
  have hh := hexL_length zr20
  have hz : (zr20 : List UInt8).length = 20 := rfl
  have := congrArg List.length (bodyC_shape (noM (aloneC d)))
  simp only [noM, aloneC, List.length_append, List.length_cons, List.flatMap_nil, List.length_nil, treW, autW, comW] at this ⊢
  omega
theorem plain_size {c : ComL} (hb : (bodyC (noM c)).length ≤ 27000) (hn : c.author.name.length + c.author.mail.length ≤ 1000) (hd : c.message.length ≤ 90000) (ht : inI c.author.time) :
    (wordsT (plainH c)).length ≤ 90000 ∧ (plainH c).desc.length ≤ 90000 ∧ inI (plainH c).time ∧ inI (plainH c).zone ∧ mz (plainH c).extras ≤ 100000 := by
  have l1 := Lib.itoa_length_le c.author.time ht.1 ht.2
  have l2 := Lib.itoa_length_le 0 (by decide) (by decide)
  have hs := subst1_len 10 [10, 32] (bodyC (noM c))
  refine ⟨?_, hd, ht, (by show inI 0; unfold inI; omega), ?_⟩
  · show (wordsT ⟨zr20, c.author.name ++ [32, 60] ++ c.author.mail ++ [62], c.author.time, 0, [(gitW, bodyC (noM c))], [], c.message⟩).length ≤ 90000
    simp only [wordsT, List.flatMap_cons, List.flatMap_nil, exL, List.length_append, List.length_cons, List.length_nil, gitW] at hs ⊢
    omega
  · show mz [(gitW, bodyC (noM c))] ≤ 100000
    simp only [mz, List.map_cons, List.map_nil, List.sum_cons, List.sum_nil]; omega
theorem ofx_size (n : Nat) {c : ComL} (hb : (bodyC (noM c)).length ≤ 27000) (hn : c.author.name.length + c.author.mail.length ≤ 1000) (hm : mz c.extras ≤ 10000) (hd : c.message.length ≤ 90000) (ht : inI c.author.time) :
    (wordsT ((obF n).1 c)).length ≤ 90000 ∧ ((obF n).1 c).desc.length ≤ 90000 ∧ inI ((obF n).1 c).time ∧ inI ((obF n).1 c).zone ∧ mz ((obF n).1 c).extras ≤ 100000 := by
  have hp := plain_size hb hn hd ht
  cases n with
  | zero => exact hp
  | succ n =>
    rw [obF_of]; unfold ofStep
    cases ho : only1 c.extras with
    | none => exact hp
    | some y =>
      obtain ⟨k, v⟩ := y
      simp only
      split
      · rename_i hh
        have h2 := mz_one ho
        simp only at h2
        have h3 := (spk_flags hh.2.1).2.1
        have h4 := spk_mz hh.2.1
        exact ⟨by rw [h3]; omega, hd, nmV_tr _, nmV_tr _, by omega⟩
      · exact hp
theorem wExt_flat : ∀ es : List ExL, wExt es ≤ (es.flatMap exL).length
  | [] => by simp [wExt]
  | x :: es => by
    have := wExt_flat es
    have h := sb_ge x.2
    simp only [wExt, List.map_cons, List.sum_cons, List.flatMap_cons, List.length_append, exL, List.length_cons, List.length_nil] at this ⊢
    have h2 : (sb x.2).length = (subst1 10 [10, 32] x.2).length := rfl
    omega
theorem wExt_mem : ∀ (es : List ExL) (x : ExL), x ∈ es → x.1.length + x.2.length ≤ wExt es
  | y :: es, x, h => by
    simp only [wExt, List.map_cons, List.sum_cons]
    rcases List.mem_cons.1 h with rfl | h
    · omega
    · have := wExt_mem es x h; unfold wExt at this; omega
theorem words_size {y : ChgL} (hm : y.man = zr20) (hf : y.files = []) (hw : (wordsT y).length ≤ 90000) (hd : y.desc.length ≤ 90000) (ht : inI y.time) (hz : inI y.zone) : sizeH y := by
  have h1 := wExt_flat y.extras
  have h2 := exsTx_w y.extras
  have h3 := (words_cnt hw).1
  have h4 := wExt_mem y.extras
  unfold wordsT at hw
  simp only [List.length_append, List.length_cons] at hw
  refine ⟨by rw [hm]; rfl, by omega, by omega, by rw [hf]; exact Nat.zero_le _, fun x hx => by have := h4 x hx; omega, fun f hx => (by rw [hf] at hx; cases hx), by omega, (by rw [hf]; exact Nat.zero_le _), by omega, ht, hz⟩
theorem own_id {y : ChgL} (hm : y.man = zr20) (hf : y.files = []) : ownH y = y := by
  obtain ⟨ym, yu, yt, yz, ye, yf, yd⟩ := y
  simp only at hm hf; subst hm; subst hf; rfl
theorem of_tcom (c : ComL) (h : comB c) (hr : rightC (toC c) = true) : tcomPre 100000 ((obF 10000).1 (aloneC (toC c))) ∧ (obF 100000).2 ((obF 10000).1 (aloneC (toC c))) = aloneC (toC c) := by
  have hb := toC_sz2 c h
  obtain ⟨y1, y2⟩ := toC_sz c h
  obtain ⟨h1, h2, h3, h4, h5, h6, h7, h8, h9, h10⟩ := toC_len c h
  obtain ⟨o1, o2, o3⟩ := of_right 10000 (c := aloneC (toC c)) hr
  obtain ⟨s1, s2, s3, s4, s5⟩ := ofx_size 10000 (c := aloneC (toC c)) hb (by show (toC c).author.name.length + (toC c).author.mail.length ≤ 1000; omega) y2 y1.2 h9
  refine ⟨⟨by rw [o2]; rfl, ?_, ?_, s5⟩, back_of (c := aloneC (toC c)) hr rfl rfl y2 s5⟩
  · rw [own_id o2 o3]; exact words_size o2 o3 s1 s2 s3 s4
  · rw [own_id o2 o3]; exact ⟨s1, s2⟩
theorem alone_size (c : ComL) (h : comB c) : tchgPre 10000 (aloneC (toC c)) := by
  obtain ⟨z1, z2⟩ := toC_size c h
  obtain ⟨y1, y2⟩ := toC_sz c h
  obtain ⟨⟨-, -, -, -, a5, a6, a7, a8⟩, -⟩ := toC_size c h
  have hb := toC_sz2 c h
  refine ⟨⟨?_, rfl, fun p hp => (by cases hp), Nat.zero_le _, a5, a6, a7, a8⟩, y1, y2⟩
  have := congrArg List.length (bodyC_shape (aloneC (toC c)))
  have h2 := congrArg List.length (bodyC_shape (noM (aloneC (toC c))))
  have h3 := y1.2
  simp only [noM, aloneC, List.length_append, List.length_cons, List.flatMap_nil, List.length_nil] at this h2 h3 hb ⊢
  omega
end Go.Proofs.YtgaehhechonegaaGreatDoor
namespace Go.Proofs.YtgaehhechonegaaGreatDoor
set_option linter.all false
open Go.RowKit
open Go.Lib (itoa)
noncomputable def phiTB : Phi := phiL [(9, [], ltoZ), (10, [], lofZ), (11, [], tchgS 10000), (19, [], tcomS 100000), (23, [], raloneS), (17, [], rsameS), (13, [], tknownS), (15, [], lgofZ), (14, [], rgsameS)]
theorem phiTB_ok : PhiOk Tryz.prog phiTB := phi_cons ltoZ_ok (by kernel_rfl) (phi_cons lofZ_ok (by kernel_rfl) (phi_cons (tchg_ok 10000) (by kernel_rfl) (phi_cons (tcom_ok 100000) (by kernel_rfl) (phi_cons ralone_ok (by kernel_rfl) (phi_cons rsame_ok (by kernel_rfl) (phi_cons tknown_ok (by kernel_rfl) (phi_cons lgofZ_ok (by kernel_rfl) (phi_cons rgsame_ok (by kernel_rfl) phi_nil))))))))
theorem phiTB_1 : phiTB 9 = some ([], ltoZ) := rfl
theorem phiTB_2 : phiTB 10 = some ([], lofZ) := rfl
theorem phiTB_3 : phiTB 11 = some ([], tchgS 10000) := rfl
theorem phiTB_4 : phiTB 19 = some ([], tcomS 100000) := rfl
theorem phiTB_5 : phiTB 23 = some ([], raloneS) := rfl
theorem phiTB_6 : phiTB 17 = some ([], rsameS) := rfl
theorem phiTB_7 : phiTB 13 = some ([], tknownS) := rfl
theorem phiTB_8 : phiTB 15 = some ([], lgofZ) := rfl
theorem phiTB_9 : phiTB 14 = some ([], rgsameS) := rfl
set_option maxHeartbeats 8000000 in
set_option maxRecDepth 8000 in
theorem tlback_ok : FnOk Tryz.prog 5 tlchgS := by
  refine fn_slim2 Tryz.func5 s_tlback phiTB_ok ?_
  intro xs hp r hs hp'
  unfold tlchgS at hs
  split at hs
  · injection hs with hs; subst hs
    rename_i t kq ps an am at' az cn cm ct cz ke es m
    obtain ⟨q0, p1⟩ := hp'
    refine ⟨len_le (by kernel_rfl), ?_⟩
    generalize hc : (⟨unV t, ps.map unId, ⟨an, am, at', az⟩, ⟨cn, cm, ct, cz⟩, es.map unEx, m⟩ : ComL) = c at *
    have hmx : maxC c := by
      obtain ⟨h1, h2, h3, ⟨h4, h5, h6, h7⟩, ⟨h8, h9, h10, h11⟩, h12, h13, h14⟩ := p1
      exact ⟨h1, h2, h3, ⟨h4, h5, h6⟩, ⟨h8, h9, h10⟩, h12, h13, h14⟩
    obtain ⟨z1, z2⟩ := toC_size c p1
    obtain ⟨y1, y2⟩ := toC_sz c p1
    obtain ⟨h1, h2, h3, h4, h5, h6, h7, h8, h9, h10⟩ := toC_len c p1
    have hT := of_tcom c p1
    have hA := alone_size c p1
    generalize hd : toC c = d at *
    obtain ⟨dt, dp, ⟨dan, dam, dat, daz⟩, ⟨dcn, dcm, dct, dcz⟩, de, dm⟩ := d
    simp only at h1 h2 h3 h4 h5 h6 h7 h8 h9 h10 y2
    have hmT := eq_true hmx
    have hpT : tchgPre 10000 ⟨dt, dp, ⟨dan, dam, dat, daz⟩, ⟨dcn, dcm, dct, dcz⟩, de, dm⟩ = True := eq_true ⟨z1, y1, y2⟩
    have haT : tchgPre 10000 ⟨zr20, [], ⟨dan, dam, dat, daz⟩, ⟨dcn, dcm, dct, dcz⟩, de, dm⟩ = True := eq_true hA
    cases hr : rightC ⟨dt, dp, ⟨dan, dam, dat, daz⟩, ⟨dcn, dcm, dct, dcz⟩, de, dm⟩ with
    | false =>
      have e : ∀ z pr, tchgR 10000 ⟨dt, dp, ⟨dan, dam, dat, daz⟩, ⟨dcn, dcm, dct, dcz⟩, de, dm⟩ z pr = some ⟨.tup [z, .int .i64 4], [], pr⟩ := fun z pr => by
        unfold tchgR; rw [hr]; rfl
      simp only [c_tlback, hmT, hpT, r_tlback, phiTB_1, phiTB_3, phiTB_7, ltoZ, tchgS, tchgSz, tknownS, hc, hd, comZ, comPs, zChgZ, argC, unV_U, unId_map, unEx_map, Bool.false_eq_true, List.length_nil, e, go_sem, Nat.reduceDiv, Nat.reduceMod, ↓reduceIte, Nat.reduceSub, Nat.reduceLT, Nat.reduceAdd, Nat.reduceLeDiff, reduceCtorEq, Int.reduceEq]
      (repeat' apply And.intro); all_goals first | exact q0.1 | exact q0.2.1 | exact q0.2.2.1 | exact q0.2.2.2.1 | exact q0.2.2.2.2 | exact hmx.1 | exact .inl trivial | exact .inr trivial | exact .inr rfl | omega | exact h2 | exact z1.1 | exact z1.2.1 | exact h9.1 | exact h9.2 | exact h10.1 | exact h10.2 | rfl | trivial | (intro p hp; cases hp; done) | skip
    | true =>
      obtain ⟨hT1, hT2⟩ := hT hr
      obtain ⟨o1, o2, o3⟩ := of_right 10000 (c := ⟨zr20, [], ⟨dan, dam, dat, daz⟩, ⟨dcn, dcm, dct, dcz⟩, de, dm⟩) hr
      have o4 := ofx_len 10000 (c := ⟨zr20, [], ⟨dan, dam, dat, daz⟩, ⟨dcn, dcm, dct, dcz⟩, de, dm⟩) hr
      simp only [aloneC] at hT1 hT2
      obtain ⟨⟨ym, yu, yt, yz, ye, yf, yd⟩, hy⟩ : ∃ y, (obF 10000).1 ⟨zr20, [], ⟨dan, dam, dat, daz⟩, ⟨dcn, dcm, dct, dcz⟩, de, dm⟩ = y := ⟨_, rfl⟩
      rw [hy] at o1 o2 o3 o4 hT1 hT2
      simp only at o2 o3 o4
      subst o2; subst o3
      obtain ⟨kk, hk⟩ : ∃ k, bkK 100000 ⟨zr20, yu, yt, yz, ye, [], yd⟩ = k := ⟨_, rfl⟩
      have hyT := eq_true hT1
      have e : ∀ z pr, tchgR 10000 ⟨dt, dp, ⟨dan, dam, dat, daz⟩, ⟨dcn, dcm, dct, dcz⟩, de, dm⟩ z pr = some ⟨.tup [chgZ ⟨zr20, yu, yt, yz, ye, [], yd⟩, .int .i64 0], [], pr⟩ := fun z pr => by
        unfold tchgR; rw [hr, if_pos rfl]; simp only [aloneC, hy]
      have e2 : ∀ z pr, tchgR 10000 ⟨zr20, [], ⟨dan, dam, dat, daz⟩, ⟨dcn, dcm, dct, dcz⟩, de, dm⟩ z pr = some ⟨.tup [chgZ ⟨zr20, yu, yt, yz, ye, [], yd⟩, .int .i64 0], [], pr⟩ := fun z pr => by
        have hr2 : rightC ⟨zr20, [], ⟨dan, dam, dat, daz⟩, ⟨dcn, dcm, dct, dcz⟩, de, dm⟩ = true := hr
        unfold tchgR; rw [hr2, if_pos rfl]; simp only [aloneC, hy]
      have e3 : ∀ z pr, tcomR 100000 ⟨zr20, yu, yt, yz, ye, [], yd⟩ z pr = some ⟨.tup [comZ kk ⟨zr20, [], ⟨dan, dam, dat, daz⟩, ⟨dcn, dcm, dct, dcz⟩, de, dm⟩, .int .i64 0], [], pr⟩ := fun z pr => by
        unfold tcomR
        have h : ownH ⟨zr20, yu, yt, yz, ye, [], yd⟩ = ⟨zr20, yu, yt, yz, ye, [], yd⟩ := rfl
        rw [h, o1, if_pos rfl, hT2, hk]
      simp only [c_tlback, hyT, hmT, hpT, haT, r_tlback, phiTB_1, phiTB_2, phiTB_3, phiTB_4, phiTB_5, phiTB_6, phiTB_7, phiTB_8, phiTB_9, ltoZ, lofZ, tchgS, tchgSz, tcomS, tcomSz, raloneS, rsameS, tknownS, lgofZ, rgsameS, hc, hd, comZ, comPs, chgZ, zChgZ, chgF, argC, argG, argS7, unV_U, unId_map, unEx_map, sameC_self, sameH_self, zr_len, Bool.false_eq_true, List.length_map, List.map_nil, List.length_nil, e, e2, e3, go_sem, Nat.reduceDiv, Nat.reduceMod, ↓reduceIte, Nat.reduceEqDiff, Nat.reduceSub, Nat.reduceLT, Nat.reduceAdd, Nat.reduceLeDiff, reduceCtorEq]
      (repeat' apply And.intro); all_goals first | exact q0.1 | exact q0.2.1 | exact q0.2.2.1 | exact q0.2.2.2.1 | exact q0.2.2.2.2 | exact hmx.1 | exact .inl trivial | exact .inr trivial | exact .inr rfl | omega | exact h2 | exact z1.1 | exact z1.2.1 | exact h9.1 | exact h9.2 | exact h10.1 | exact h10.2 | rfl | trivial | (intro p hp; cases hp; done) | skip
  · cases hs
theorem transBack_walk {v : Value} (w : World) (w0 : ComArg w v) (g : GlobOk w (fun b => b < w.heap.size)) :
    Calls Tryz.prog 5 #[v] w fun e w' => e = .returned (.bool true) ∧ Below w.heap.size w w' := by
  obtain ⟨c, hv, hc⟩ := w0
  exact tlback_ok.calls_bool (xs := [comAV c]) rfl
    ⟨⟨by rw [unV_U], by rw [unId_map], by rw [unEx_map], .inl rfl, .inl rfl⟩, by rw [unV_U, unId_map, unEx_map]; exact hc⟩ rfl
    (args_cons (hv _) (args_nil g))
end Go.Proofs.YtgaehhechonegaaGreatDoor
