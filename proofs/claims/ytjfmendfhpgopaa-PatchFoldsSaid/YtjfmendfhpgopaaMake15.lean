/- What 'patch.Make' makes: nothing of two equal rows, else one hunk. -/
import Derived.Test.YtjfmendfhpgopaaBe
import Derived.Test.YtjfmendfhpgopaaEq
import Derived.Test.YtjfmendfhpgopaaConcat
import Derived.Test.YtjfmendfhpgopaaLaw15
namespace Go.Proofs.Ytjfmendfhpgopaa
set_option linter.all false
open Go.RowKit

/-- One hunk between two places counted from both ends. -/
def oneHk (base target : List UInt8) (f k : Nat) : List UInt8 :=
  be 4 f ++ be 4 (base.length - k) ++ be 4 (target.length - k - f) ++ (target.take (target.length - k)).drop f
/-- What may be made: nothing of equal ones; else a hunk between two parts that are equal. -/
def Made (base target p : List UInt8) : Prop :=
  (base = target ∧ p = []) ∨ (base ≠ target ∧ ∃ f k, f + k ≤ base.length ∧ f + k ≤ target.length ∧ base.take f = target.take f ∧ base.drop (base.length - k) = target.drop (target.length - k) ∧ p = oneHk base target f k)

theorem drop_more (l m : List UInt8) (k : Nat) (hl : k < l.length) (hm : k < m.length) (h : l.drop (l.length - k) = m.drop (m.length - k)) (h1 : l[l.length - 1 - k]'(by omega) = m[m.length - 1 - k]'(by omega)) :
    l.drop (l.length - (k + 1)) = m.drop (m.length - (k + 1)) := by
  rw [List.drop_eq_getElem_cons (show l.length - (k + 1) < l.length by omega), List.drop_eq_getElem_cons (show m.length - (k + 1) < m.length by omega)]
  have e1 : l.length - (k + 1) + 1 = l.length - k := by omega
  have e2 : m.length - (k + 1) + 1 = m.length - k := by omega
  rw [e1, e2, h]
  congr 1
  simpa [Nat.sub_sub, Nat.add_comm] using h1

theorem Rd.atS {w : World} {b o : Nat} {l : List UInt8} (h : Rd w (some ⟨b, o, none⟩) l) : ∀ k, k < l.length → w.cell? ⟨b, o + k, none⟩ = some (.int .u8 (at8 l k)) := by
  intro k hk
  obtain ⟨b2, o2, e, hc⟩ := h (by omega)
  cases e
  exact hc k hk
theorem numsBe4I (n : Int) (w : World) (h0 : 0 ≤ n) (hn : n < 18446744073709551616) :
    Calls Try.prog 21 #[.int .u64 n, .int .i64 4] w fun e w' => ∃ A c, e = .returned (.slice A 4 c) ∧ Own w' w.heap.size 5 A c (be 4 n.toNat) ∧ Below w.heap.size w w' := by
  obtain ⟨m, rfl⟩ := Int.eq_ofNat_of_zero_le h0
  exact numsBe4N m w (by omega)

set_option maxHeartbeats 2000000 in
set_option maxRecDepth 100000 in
theorem patchMake (A1 A2 : Option Addr) (n1 n2 c1 c2 : Nat) (base target : List UInt8) (w : World) (hn1 : n1 = base.length) (hn2 : n2 = target.length) (h1 : Rd w A1 base) (h2 : Rd w A2 target) (hc2 : target.length ≤ c2) (hm2 : c2 ≤ 9223372036854775807)
    (hb1 : base.length ≤ 4294967295) (hb2 : target.length ≤ 4294967295) :
    Calls Try.prog 13 #[.slice A1 n1 c1, .slice A2 n2 c2] w fun e w' => ∃ A c p, e = .returned (.slice A p.length c) ∧ Made base target p ∧ p.length ≤ 12 + target.length ∧ Own w' w.heap.size 5 A c p ∧ Below w.heap.size w w' := by
  subst hn1 hn2
  by_cases heq : base = target
  · subst heq
    go_enter Try.func13, Try.ntmps13
    go_wp2_with (at_builtin; refine stopAt ?_)
    refine (sliceEqual A1 A2 _ _ c1 c2 base base _ rfl rfl h1 h2 (by omega) (by omega) true (by simp)).mono ?_
    rintro e w1 ⟨rfl, q, rfl⟩
    go_wp2
    go_ret
    exact ⟨none, 0, [], rfl, .inl ⟨rfl, rfl⟩, by simp, Own.nil _ _ _, belowN (Below.refl _ _) q⟩
  · have Hne := hide heq
    clear heq
    go_enter Try.func13, Try.ntmps13
    go_wp2_with (at_builtin; refine stopAt ?_)
    refine (sliceEqual A1 A2 _ _ c1 c2 base target _ rfl rfl h1 h2 (by omega) (by omega) false (by rw [decide_eq_false Hne.out])).mono ?_
    rintro e w1 ⟨rfl, q, rfl⟩
    go_wp2
    go_loopw [5] (fun i wr => ∃ f : Nat, f ≤ base.length ∧ f ≤ target.length ∧ i = .int .i64 f ∧ Hid (base.take f = target.take f) ∧ ∃ q, wr = w.drewN q) (fun i _ => base.length - (intOf i).toNat)
    case atStart => exact ⟨0, Nat.zero_le _, Nat.zero_le _, rfl, hide rfl, _, rfl⟩
    case round =>
      obtain ⟨f, hf1, hf2, rfl, htk, q, rfl⟩ := hrel
      by_cases hgo : f < base.length ∧ f < target.length ∧ at8 base f = at8 target f
      · obtain ⟨hl1, hl2, hv⟩ := hgo
        obtain ⟨b1, o1, rfl, _, hcx⟩ := h1.at_ (by omega)
        obtain ⟨b2, o2, rfl, _, hcy⟩ := h2.at_ (by omega)
        have e1 := hcx f hl1
        have e2 := hcy f hl2
        have Htm := hide (take_more base target f hl1 hl2 htk.out ((at8_eq base target f hl1 hl2).1 hv))
        clear hcx hcy
        have hx0 := at8_lo base f
        have t3 : (at8 base f == at8 target f) = true := by rw [beq_iff_eq]; exact hv
        have i1 : (f : Int) < (base.length : Int) := by omega
        have i2 : (f : Int) < (target.length : Int) := by omega
        clear hv
        go_wp2_with (at_builtin; refine stopAt ?_)
        go_quiet (fail)
        go_wp2
        go_roundw
        case rel => exact ⟨f + 1, by omega, by omega, by go_num, hide Htm.out, _, rfl⟩
        case measure => simp [intOf]; omega
      · have hcase : base.length ≤ f ∨ (f < base.length ∧ target.length ≤ f) ∨ (f < base.length ∧ f < target.length ∧ at8 base f ≠ at8 target f) := by omega
        clear hgo
        rcases hcase with hx | ⟨hx, hy⟩ | ⟨hx, hy, hz⟩
        · have i1 : (base.length : Int) ≤ (f : Int) := by omega
          have d1 : decide (f < base.length) = false := by rw [decide_eq_false_iff_not]; omega
          go_wp2_with (at_builtin; refine stopAt ?_)
          go_quiet (fail)
          clear d1 i1
          go_wp2_with (at_builtin; refine stopAt ?_)
          go_loopw [6] (fun i wr => ∃ k : Nat, f + k ≤ base.length ∧ f + k ≤ target.length ∧ i = .int .i64 k ∧ Hid (base.drop (base.length - k) = target.drop (target.length - k)) ∧ ∃ q, wr = w.drewN q) (fun i _ => base.length - (intOf i).toNat)
          case atStart => exact ⟨0, by omega, by omega, rfl, hide (by simp), _, World.drewN_drewN _ _ _⟩
          case round =>
            obtain ⟨k, hk1, hk2, rfl, hdk, q, rfl⟩ := hrel
            have hcase : (f + k < base.length ∧ f + k < target.length ∧ at8 base (base.length - 1 - k) = at8 target (target.length - 1 - k)) ∨ base.length ≤ f + k ∨ (f + k < base.length ∧ target.length ≤ f + k) ∨ (f + k < base.length ∧ f + k < target.length ∧ at8 base (base.length - 1 - k) ≠ at8 target (target.length - 1 - k)) := by omega
            rcases hcase with ⟨hl1, hl2, hv⟩ | hx | ⟨hx, hy⟩ | ⟨hx, hy, hz⟩
            · have Hdm := hide (drop_more base target k (by omega) (by omega) hdk.out ((by
                have := hv
                unfold at8 at this
                simp only [List.getD, List.getElem?_eq_getElem (show base.length - 1 - k < base.length by omega), List.getElem?_eq_getElem (show target.length - 1 - k < target.length by omega), Option.getD_some] at this
                exact UInt8.toNat_inj.1 (by omega))))
              have t3 : (at8 base (base.length - 1 - k) == at8 target (target.length - 1 - k)) = true := by rw [beq_iff_eq]; exact hv
              clear hv
              have w1 : IntKind.i64.wrap ((base.length : Int) - (f : Int)) = (base.length : Int) - (f : Int) := IntWalk.i64_in _ (by omega)
              have w2 : IntKind.i64.wrap ((target.length : Int) - (f : Int)) = (target.length : Int) - (f : Int) := IntWalk.i64_in _ (by omega)
              have w3 : IntKind.i64.wrap ((base.length : Int) - 1) = (base.length : Int) - 1 := IntWalk.i64_in _ (by omega)
              have w4 : IntKind.i64.wrap ((base.length : Int) - 1 - (k : Int)) = (base.length : Int) - 1 - (k : Int) := IntWalk.i64_in _ (by omega)
              have w5 : IntKind.i64.wrap ((target.length : Int) - 1) = (target.length : Int) - 1 := IntWalk.i64_in _ (by omega)
              have w6 : IntKind.i64.wrap ((target.length : Int) - 1 - (k : Int)) = (target.length : Int) - 1 - (k : Int) := IntWalk.i64_in _ (by omega)
              have p1 : 0 ≤ (base.length : Int) - 1 - (k : Int) := by omega
              have p2 : 0 ≤ (target.length : Int) - 1 - (k : Int) := by omega
              have u1 : ((base.length : Int) - 1 - (k : Int)).toNat = base.length - 1 - k := by omega
              have u2 : ((target.length : Int) - 1 - (k : Int)).toNat = target.length - 1 - k := by omega
              have v1 : (base.length : Int) - 1 - (k : Int) < (base.length : Int) := by omega
              have v2 : (target.length : Int) - 1 - (k : Int) < (target.length : Int) := by omega
              obtain ⟨b1, o1, rfl, _, hcx⟩ := h1.at_ (by omega)
              obtain ⟨b2, o2, rfl, _, hcy⟩ := h2.at_ (by omega)
              have e1 := hcx (base.length - 1 - k) (by omega)
              have e2 := hcy (target.length - 1 - k) (by omega)
              have i1 : (k : Int) < (base.length : Int) - (f : Int) := by omega
              have i2 : (k : Int) < (target.length : Int) - (f : Int) := by omega
              clear hcx hcy
              go_wp2_with (at_builtin; refine stopAt ?_)
              go_quiet (fail)
              clear w1 w2 w3 w4 w5 w6 p1 p2 u1 u2 v1 v2 e1 e2 t3
              go_wp2
              go_roundw
              case rel => exact ⟨k + 1, by omega, by omega, by go_num, hide Hdm.out, _, rfl⟩
              case measure => simp [intOf]; omega
            · skip
              have w1 : IntKind.i64.wrap ((base.length : Int) - (f : Int)) = (base.length : Int) - (f : Int) := IntWalk.i64_in _ (by omega)
              have w2 : IntKind.i64.wrap ((target.length : Int) - (f : Int)) = (target.length : Int) - (f : Int) := IntWalk.i64_in _ (by omega)
              have d1 : decide ((k : Int) < (base.length : Int) - (f : Int)) = false := by rw [decide_eq_false_iff_not]; omega
              go_wp2_with (at_builtin; refine stopAt ?_)
              go_quiet (fail)
              clear w1 w2 d1 hx
              have hS := (Sep.start w).drewN (q + nq)
              go_wp2_with (at_builtin; refine stopAt ?_)
              refine (numsBe4N f _ (by omega)).mono ?_
              rintro e x1 ⟨Aa, ca, rfl, o1, g1⟩
              replace hS := hS.call g1 (x := .row 5 Aa ca (be 4 f)) o1
              simp only [List.cons_append, List.nil_append, List.set_cons_zero, List.set_cons_succ, List.map_cons, List.map_nil, List.getD_cons_zero, List.getD_cons_succ, Array.toList] at hS
              go_wp2_with (at_builtin; refine stopAt ?_)
              refine (numsBe4I _ _ (by omega) (by omega)).mono ?_
              rintro e x2 ⟨Ab, cb, rfl, o2, g2⟩
              rw [show ((base.length : Int) - (k : Int)).toNat = base.length - k by omega] at o2
              replace hS := hS.call g2 (x := .row 5 Ab cb (be 4 (base.length - k))) o2
              simp only [List.cons_append, List.nil_append, List.set_cons_zero, List.set_cons_succ, List.map_cons, List.map_nil, List.getD_cons_zero, List.getD_cons_succ, Array.toList] at hS
              go_wp2_with (at_builtin; refine stopAt ?_)
              refine (numsBe4I _ _ (by omega) (by omega)).mono ?_
              rintro e x3 ⟨Ac, cc, rfl, o3, g3⟩
              rw [Int.toNat_natCast] at o3
              replace hS := hS.call g3 (x := .row 5 Ac cc (be 4 (target.length - k - f))) o3
              simp only [List.cons_append, List.nil_append, List.set_cons_zero, List.set_cons_succ, List.map_cons, List.map_nil, List.getD_cons_zero, List.getD_cons_succ, Array.toList] at hS
              clear o1 o2 o3 g1 g2 g3
              go_wp2_with (at_builtin; refine stopAt ?_)
              have hS1 := hS.allocR #[.slice Aa 4 ca, .slice Ab 4 cb, .slice Ac 4 cc, .slice (cutA A2 c2 f 1) (target.length - k - f) (c2 - f)] 22 1 4 rfl (by simp [maxLen])
              simp only [List.cons_append, List.nil_append, List.set_cons_zero, List.set_cons_succ, List.map_cons, List.map_nil, List.getD_cons_zero, List.getD_cons_succ, Array.toList] at hS1
              have hlb : ((target.take (target.length - k)).drop f).length = target.length - k - f := by rw [List.length_drop, List.length_take]; omega
              have hrb := h2.cut (i := f) (j := target.length - k) (cap := c2) (by omega) (by omega) hc2
              refine (sliceConcat _ 4 4 [⟨Aa, ca, be 4 f⟩, ⟨Ab, cb, be 4 (base.length - k)⟩, ⟨Ac, cc, be 4 (target.length - k - f)⟩, ⟨_, c2 - f, (target.take (target.length - k)).drop f⟩] _ rfl ⟨(by
                have := hS1.rdR 3 rfl
                simpa [BRec.cell, be_len, hlb] using this), fun x hx => by
                simp at hx
                rcases hx with rfl | rfl | rfl | rfl
                · exact hS1.rd 0 rfl
                · exact hS1.rd 1 rfl
                · exact hS1.rd 2 rfl
                · exact hrb.ext hS1.below⟩ (by simp) (by simp only [flatB, List.map_cons, List.map_nil, List.flatten_cons, List.flatten_nil, List.length_append, be_len, hlb]; simp; omega)).mono ?_
              rintro e x4 ⟨Ad, cd, rfl, o4, g4⟩
              have hfl : flatB [⟨Aa, ca, be 4 f⟩, ⟨Ab, cb, be 4 (base.length - k)⟩, ⟨Ac, cc, be 4 (target.length - k - f)⟩, ⟨cutA A2 c2 f 1, c2 - f, (target.take (target.length - k)).drop f⟩] = oneHk base target f k := by simp [flatB, oneHk]
              rw [hfl] at o4 ⊢
              have hbel := (hS1.ext g4).below
              have hO := o4.mono hS1.size
              have hpl : (oneHk base target f k).length ≤ 12 + target.length := by
                unfold oneHk; simp only [List.length_append, be_len, hlb]; omega
              have hM : Made base target (oneHk base target f k) := .inr ⟨Hne.out, f, k, hk1, hk2, htk.out, hdk.out, rfl⟩
              generalize oneHk base target f k = pp at *
              have HM := hide hM
              have HO := hide hO
              clear hS hS1 hfl hrb hlb o4 g4 hM hO
              go_wp2
              go_ret
              exact ⟨Ad, cd, pp, rfl, HM.out, hpl, HO.out, hbel⟩
            · skip
              have w1 : IntKind.i64.wrap ((base.length : Int) - (f : Int)) = (base.length : Int) - (f : Int) := IntWalk.i64_in _ (by omega)
              have w2 : IntKind.i64.wrap ((target.length : Int) - (f : Int)) = (target.length : Int) - (f : Int) := IntWalk.i64_in _ (by omega)
              have i1 : (k : Int) < (base.length : Int) - (f : Int) := by omega
              have d2 : decide ((k : Int) < (target.length : Int) - (f : Int)) = false := by rw [decide_eq_false_iff_not]; omega
              go_wp2_with (at_builtin; refine stopAt ?_)
              go_quiet (fail)
              clear w1 w2 d2 hx hy i1
              have hS := (Sep.start w).drewN (q + nq)
              go_wp2_with (at_builtin; refine stopAt ?_)
              refine (numsBe4N f _ (by omega)).mono ?_
              rintro e x1 ⟨Aa, ca, rfl, o1, g1⟩
              replace hS := hS.call g1 (x := .row 5 Aa ca (be 4 f)) o1
              simp only [List.cons_append, List.nil_append, List.set_cons_zero, List.set_cons_succ, List.map_cons, List.map_nil, List.getD_cons_zero, List.getD_cons_succ, Array.toList] at hS
              go_wp2_with (at_builtin; refine stopAt ?_)
              refine (numsBe4I _ _ (by omega) (by omega)).mono ?_
              rintro e x2 ⟨Ab, cb, rfl, o2, g2⟩
              rw [show ((base.length : Int) - (k : Int)).toNat = base.length - k by omega] at o2
              replace hS := hS.call g2 (x := .row 5 Ab cb (be 4 (base.length - k))) o2
              simp only [List.cons_append, List.nil_append, List.set_cons_zero, List.set_cons_succ, List.map_cons, List.map_nil, List.getD_cons_zero, List.getD_cons_succ, Array.toList] at hS
              go_wp2_with (at_builtin; refine stopAt ?_)
              refine (numsBe4I _ _ (by omega) (by omega)).mono ?_
              rintro e x3 ⟨Ac, cc, rfl, o3, g3⟩
              rw [Int.toNat_natCast] at o3
              replace hS := hS.call g3 (x := .row 5 Ac cc (be 4 (target.length - k - f))) o3
              simp only [List.cons_append, List.nil_append, List.set_cons_zero, List.set_cons_succ, List.map_cons, List.map_nil, List.getD_cons_zero, List.getD_cons_succ, Array.toList] at hS
              clear o1 o2 o3 g1 g2 g3
              go_wp2_with (at_builtin; refine stopAt ?_)
              have hS1 := hS.allocR #[.slice Aa 4 ca, .slice Ab 4 cb, .slice Ac 4 cc, .slice (cutA A2 c2 f 1) (target.length - k - f) (c2 - f)] 22 1 4 rfl (by simp [maxLen])
              simp only [List.cons_append, List.nil_append, List.set_cons_zero, List.set_cons_succ, List.map_cons, List.map_nil, List.getD_cons_zero, List.getD_cons_succ, Array.toList] at hS1
              have hlb : ((target.take (target.length - k)).drop f).length = target.length - k - f := by rw [List.length_drop, List.length_take]; omega
              have hrb := h2.cut (i := f) (j := target.length - k) (cap := c2) (by omega) (by omega) hc2
              refine (sliceConcat _ 4 4 [⟨Aa, ca, be 4 f⟩, ⟨Ab, cb, be 4 (base.length - k)⟩, ⟨Ac, cc, be 4 (target.length - k - f)⟩, ⟨_, c2 - f, (target.take (target.length - k)).drop f⟩] _ rfl ⟨(by
                have := hS1.rdR 3 rfl
                simpa [BRec.cell, be_len, hlb] using this), fun x hx => by
                simp at hx
                rcases hx with rfl | rfl | rfl | rfl
                · exact hS1.rd 0 rfl
                · exact hS1.rd 1 rfl
                · exact hS1.rd 2 rfl
                · exact hrb.ext hS1.below⟩ (by simp) (by simp only [flatB, List.map_cons, List.map_nil, List.flatten_cons, List.flatten_nil, List.length_append, be_len, hlb]; simp; omega)).mono ?_
              rintro e x4 ⟨Ad, cd, rfl, o4, g4⟩
              have hfl : flatB [⟨Aa, ca, be 4 f⟩, ⟨Ab, cb, be 4 (base.length - k)⟩, ⟨Ac, cc, be 4 (target.length - k - f)⟩, ⟨cutA A2 c2 f 1, c2 - f, (target.take (target.length - k)).drop f⟩] = oneHk base target f k := by simp [flatB, oneHk]
              rw [hfl] at o4 ⊢
              have hbel := (hS1.ext g4).below
              have hO := o4.mono hS1.size
              have hpl : (oneHk base target f k).length ≤ 12 + target.length := by
                unfold oneHk; simp only [List.length_append, be_len, hlb]; omega
              have hM : Made base target (oneHk base target f k) := .inr ⟨Hne.out, f, k, hk1, hk2, htk.out, hdk.out, rfl⟩
              generalize oneHk base target f k = pp at *
              have HM := hide hM
              have HO := hide hO
              clear hS hS1 hfl hrb hlb o4 g4 hM hO
              go_wp2
              go_ret
              exact ⟨Ad, cd, pp, rfl, HM.out, hpl, HO.out, hbel⟩
            · have t3 : (at8 base (base.length - 1 - k) == at8 target (target.length - 1 - k)) = false := by rw [beq_eq_false_iff_ne]; exact hz
              clear hz
              have w1 : IntKind.i64.wrap ((base.length : Int) - (f : Int)) = (base.length : Int) - (f : Int) := IntWalk.i64_in _ (by omega)
              have w2 : IntKind.i64.wrap ((target.length : Int) - (f : Int)) = (target.length : Int) - (f : Int) := IntWalk.i64_in _ (by omega)
              have w3 : IntKind.i64.wrap ((base.length : Int) - 1) = (base.length : Int) - 1 := IntWalk.i64_in _ (by omega)
              have w4 : IntKind.i64.wrap ((base.length : Int) - 1 - (k : Int)) = (base.length : Int) - 1 - (k : Int) := IntWalk.i64_in _ (by omega)
              have w5 : IntKind.i64.wrap ((target.length : Int) - 1) = (target.length : Int) - 1 := IntWalk.i64_in _ (by omega)
              have w6 : IntKind.i64.wrap ((target.length : Int) - 1 - (k : Int)) = (target.length : Int) - 1 - (k : Int) := IntWalk.i64_in _ (by omega)
              have p1 : 0 ≤ (base.length : Int) - 1 - (k : Int) := by omega
              have p2 : 0 ≤ (target.length : Int) - 1 - (k : Int) := by omega
              have u1 : ((base.length : Int) - 1 - (k : Int)).toNat = base.length - 1 - k := by omega
              have u2 : ((target.length : Int) - 1 - (k : Int)).toNat = target.length - 1 - k := by omega
              have v1 : (base.length : Int) - 1 - (k : Int) < (base.length : Int) := by omega
              have v2 : (target.length : Int) - 1 - (k : Int) < (target.length : Int) := by omega
              obtain ⟨b1, o1, rfl, _, hcx⟩ := h1.at_ (by omega)
              obtain ⟨b2, o2, rfl, _, hcy⟩ := h2.at_ (by omega)
              have e1 := hcx (base.length - 1 - k) (by omega)
              have e2 := hcy (target.length - 1 - k) (by omega)
              have i1 : (k : Int) < (base.length : Int) - (f : Int) := by omega
              have i2 : (k : Int) < (target.length : Int) - (f : Int) := by omega
              clear hcx hcy
              go_wp2_with (at_builtin; refine stopAt ?_)
              go_quiet (fail)
              clear w1 w2 w3 w4 w5 w6 p1 p2 u1 u2 v1 v2 e1 e2 t3 hx hy i1 i2
              have hS := (Sep.start w).drewN (q + nq)
              go_wp2_with (at_builtin; refine stopAt ?_)
              refine (numsBe4N f _ (by omega)).mono ?_
              rintro e x1 ⟨Aa, ca, rfl, o1, g1⟩
              replace hS := hS.call g1 (x := .row 5 Aa ca (be 4 f)) o1
              simp only [List.cons_append, List.nil_append, List.set_cons_zero, List.set_cons_succ, List.map_cons, List.map_nil, List.getD_cons_zero, List.getD_cons_succ, Array.toList] at hS
              go_wp2_with (at_builtin; refine stopAt ?_)
              refine (numsBe4I _ _ (by omega) (by omega)).mono ?_
              rintro e x2 ⟨Ab, cb, rfl, o2, g2⟩
              rw [show ((base.length : Int) - (k : Int)).toNat = base.length - k by omega] at o2
              replace hS := hS.call g2 (x := .row 5 Ab cb (be 4 (base.length - k))) o2
              simp only [List.cons_append, List.nil_append, List.set_cons_zero, List.set_cons_succ, List.map_cons, List.map_nil, List.getD_cons_zero, List.getD_cons_succ, Array.toList] at hS
              go_wp2_with (at_builtin; refine stopAt ?_)
              refine (numsBe4I _ _ (by omega) (by omega)).mono ?_
              rintro e x3 ⟨Ac, cc, rfl, o3, g3⟩
              rw [Int.toNat_natCast] at o3
              replace hS := hS.call g3 (x := .row 5 Ac cc (be 4 (target.length - k - f))) o3
              simp only [List.cons_append, List.nil_append, List.set_cons_zero, List.set_cons_succ, List.map_cons, List.map_nil, List.getD_cons_zero, List.getD_cons_succ, Array.toList] at hS
              clear o1 o2 o3 g1 g2 g3
              go_wp2_with (at_builtin; refine stopAt ?_)
              have hS1 := hS.allocR #[.slice Aa 4 ca, .slice Ab 4 cb, .slice Ac 4 cc, .slice (cutA (some ⟨b2, o2, none⟩) c2 f 1) (target.length - k - f) (c2 - f)] 22 1 4 rfl (by simp [maxLen])
              simp only [List.cons_append, List.nil_append, List.set_cons_zero, List.set_cons_succ, List.map_cons, List.map_nil, List.getD_cons_zero, List.getD_cons_succ, Array.toList] at hS1
              have hlb : ((target.take (target.length - k)).drop f).length = target.length - k - f := by rw [List.length_drop, List.length_take]; omega
              have hrb := h2.cut (i := f) (j := target.length - k) (cap := c2) (by omega) (by omega) hc2
              refine (sliceConcat _ 4 4 [⟨Aa, ca, be 4 f⟩, ⟨Ab, cb, be 4 (base.length - k)⟩, ⟨Ac, cc, be 4 (target.length - k - f)⟩, ⟨_, c2 - f, (target.take (target.length - k)).drop f⟩] _ rfl ⟨(by
                have := hS1.rdR 3 rfl
                simpa [BRec.cell, be_len, hlb] using this), fun x hx => by
                simp at hx
                rcases hx with rfl | rfl | rfl | rfl
                · exact hS1.rd 0 rfl
                · exact hS1.rd 1 rfl
                · exact hS1.rd 2 rfl
                · exact hrb.ext hS1.below⟩ (by simp) (by simp only [flatB, List.map_cons, List.map_nil, List.flatten_cons, List.flatten_nil, List.length_append, be_len, hlb]; simp; omega)).mono ?_
              rintro e x4 ⟨Ad, cd, rfl, o4, g4⟩
              have hfl : flatB [⟨Aa, ca, be 4 f⟩, ⟨Ab, cb, be 4 (base.length - k)⟩, ⟨Ac, cc, be 4 (target.length - k - f)⟩, ⟨cutA (some ⟨b2, o2, none⟩) c2 f 1, c2 - f, (target.take (target.length - k)).drop f⟩] = oneHk base target f k := by simp [flatB, oneHk]
              rw [hfl] at o4 ⊢
              have hbel := (hS1.ext g4).below
              have hO := o4.mono hS1.size
              have hpl : (oneHk base target f k).length ≤ 12 + target.length := by
                unfold oneHk; simp only [List.length_append, be_len, hlb]; omega
              have hM : Made base target (oneHk base target f k) := .inr ⟨Hne.out, f, k, hk1, hk2, htk.out, hdk.out, rfl⟩
              generalize oneHk base target f k = pp at *
              have HM := hide hM
              have HO := hide hO
              clear hS hS1 hfl hrb hlb o4 g4 hM hO
              go_wp2
              go_ret
              exact ⟨Ad, cd, pp, rfl, HM.out, hpl, HO.out, hbel⟩
        · have i1 : (f : Int) < (base.length : Int) := by omega
          have i2 : (target.length : Int) ≤ (f : Int) := by omega
          have d2 : decide (f < target.length) = false := by rw [decide_eq_false_iff_not]; omega
          go_wp2_with (at_builtin; refine stopAt ?_)
          go_quiet (fail)
          clear d2 i1 i2
          go_wp2_with (at_builtin; refine stopAt ?_)
          go_loopw [6] (fun i wr => ∃ k : Nat, f + k ≤ base.length ∧ f + k ≤ target.length ∧ i = .int .i64 k ∧ Hid (base.drop (base.length - k) = target.drop (target.length - k)) ∧ ∃ q, wr = w.drewN q) (fun i _ => base.length - (intOf i).toNat)
          case atStart => exact ⟨0, by omega, by omega, rfl, hide (by simp), _, World.drewN_drewN _ _ _⟩
          case round =>
            obtain ⟨k, hk1, hk2, rfl, hdk, q, rfl⟩ := hrel
            have hcase : (f + k < base.length ∧ f + k < target.length ∧ at8 base (base.length - 1 - k) = at8 target (target.length - 1 - k)) ∨ base.length ≤ f + k ∨ (f + k < base.length ∧ target.length ≤ f + k) ∨ (f + k < base.length ∧ f + k < target.length ∧ at8 base (base.length - 1 - k) ≠ at8 target (target.length - 1 - k)) := by omega
            rcases hcase with ⟨hl1, hl2, hv⟩ | hx | ⟨hx, hy⟩ | ⟨hx, hy, hz⟩
            · have Hdm := hide (drop_more base target k (by omega) (by omega) hdk.out ((by
                have := hv
                unfold at8 at this
                simp only [List.getD, List.getElem?_eq_getElem (show base.length - 1 - k < base.length by omega), List.getElem?_eq_getElem (show target.length - 1 - k < target.length by omega), Option.getD_some] at this
                exact UInt8.toNat_inj.1 (by omega))))
              have t3 : (at8 base (base.length - 1 - k) == at8 target (target.length - 1 - k)) = true := by rw [beq_iff_eq]; exact hv
              clear hv
              have w1 : IntKind.i64.wrap ((base.length : Int) - (f : Int)) = (base.length : Int) - (f : Int) := IntWalk.i64_in _ (by omega)
              have w2 : IntKind.i64.wrap ((target.length : Int) - (f : Int)) = (target.length : Int) - (f : Int) := IntWalk.i64_in _ (by omega)
              have w3 : IntKind.i64.wrap ((base.length : Int) - 1) = (base.length : Int) - 1 := IntWalk.i64_in _ (by omega)
              have w4 : IntKind.i64.wrap ((base.length : Int) - 1 - (k : Int)) = (base.length : Int) - 1 - (k : Int) := IntWalk.i64_in _ (by omega)
              have w5 : IntKind.i64.wrap ((target.length : Int) - 1) = (target.length : Int) - 1 := IntWalk.i64_in _ (by omega)
              have w6 : IntKind.i64.wrap ((target.length : Int) - 1 - (k : Int)) = (target.length : Int) - 1 - (k : Int) := IntWalk.i64_in _ (by omega)
              have p1 : 0 ≤ (base.length : Int) - 1 - (k : Int) := by omega
              have p2 : 0 ≤ (target.length : Int) - 1 - (k : Int) := by omega
              have u1 : ((base.length : Int) - 1 - (k : Int)).toNat = base.length - 1 - k := by omega
              have u2 : ((target.length : Int) - 1 - (k : Int)).toNat = target.length - 1 - k := by omega
              have v1 : (base.length : Int) - 1 - (k : Int) < (base.length : Int) := by omega
              have v2 : (target.length : Int) - 1 - (k : Int) < (target.length : Int) := by omega
              obtain ⟨b1, o1, rfl, _, hcx⟩ := h1.at_ (by omega)
              obtain ⟨b2, o2, rfl, _, hcy⟩ := h2.at_ (by omega)
              have e1 := hcx (base.length - 1 - k) (by omega)
              have e2 := hcy (target.length - 1 - k) (by omega)
              have i1 : (k : Int) < (base.length : Int) - (f : Int) := by omega
              have i2 : (k : Int) < (target.length : Int) - (f : Int) := by omega
              clear hcx hcy
              go_wp2_with (at_builtin; refine stopAt ?_)
              go_quiet (fail)
              clear w1 w2 w3 w4 w5 w6 p1 p2 u1 u2 v1 v2 e1 e2 t3
              go_wp2
              go_roundw
              case rel => exact ⟨k + 1, by omega, by omega, by go_num, hide Hdm.out, _, rfl⟩
              case measure => simp [intOf]; omega
            · skip
              have w1 : IntKind.i64.wrap ((base.length : Int) - (f : Int)) = (base.length : Int) - (f : Int) := IntWalk.i64_in _ (by omega)
              have w2 : IntKind.i64.wrap ((target.length : Int) - (f : Int)) = (target.length : Int) - (f : Int) := IntWalk.i64_in _ (by omega)
              have d1 : decide ((k : Int) < (base.length : Int) - (f : Int)) = false := by rw [decide_eq_false_iff_not]; omega
              go_wp2_with (at_builtin; refine stopAt ?_)
              go_quiet (fail)
              clear w1 w2 d1 hx
              have hS := (Sep.start w).drewN (q + nq)
              go_wp2_with (at_builtin; refine stopAt ?_)
              refine (numsBe4N f _ (by omega)).mono ?_
              rintro e x1 ⟨Aa, ca, rfl, o1, g1⟩
              replace hS := hS.call g1 (x := .row 5 Aa ca (be 4 f)) o1
              simp only [List.cons_append, List.nil_append, List.set_cons_zero, List.set_cons_succ, List.map_cons, List.map_nil, List.getD_cons_zero, List.getD_cons_succ, Array.toList] at hS
              go_wp2_with (at_builtin; refine stopAt ?_)
              refine (numsBe4I _ _ (by omega) (by omega)).mono ?_
              rintro e x2 ⟨Ab, cb, rfl, o2, g2⟩
              rw [show ((base.length : Int) - (k : Int)).toNat = base.length - k by omega] at o2
              replace hS := hS.call g2 (x := .row 5 Ab cb (be 4 (base.length - k))) o2
              simp only [List.cons_append, List.nil_append, List.set_cons_zero, List.set_cons_succ, List.map_cons, List.map_nil, List.getD_cons_zero, List.getD_cons_succ, Array.toList] at hS
              go_wp2_with (at_builtin; refine stopAt ?_)
              refine (numsBe4I _ _ (by omega) (by omega)).mono ?_
              rintro e x3 ⟨Ac, cc, rfl, o3, g3⟩
              rw [Int.toNat_natCast] at o3
              replace hS := hS.call g3 (x := .row 5 Ac cc (be 4 (target.length - k - f))) o3
              simp only [List.cons_append, List.nil_append, List.set_cons_zero, List.set_cons_succ, List.map_cons, List.map_nil, List.getD_cons_zero, List.getD_cons_succ, Array.toList] at hS
              clear o1 o2 o3 g1 g2 g3
              go_wp2_with (at_builtin; refine stopAt ?_)
              have hS1 := hS.allocR #[.slice Aa 4 ca, .slice Ab 4 cb, .slice Ac 4 cc, .slice (cutA A2 c2 f 1) (target.length - k - f) (c2 - f)] 22 1 4 rfl (by simp [maxLen])
              simp only [List.cons_append, List.nil_append, List.set_cons_zero, List.set_cons_succ, List.map_cons, List.map_nil, List.getD_cons_zero, List.getD_cons_succ, Array.toList] at hS1
              have hlb : ((target.take (target.length - k)).drop f).length = target.length - k - f := by rw [List.length_drop, List.length_take]; omega
              have hrb := h2.cut (i := f) (j := target.length - k) (cap := c2) (by omega) (by omega) hc2
              refine (sliceConcat _ 4 4 [⟨Aa, ca, be 4 f⟩, ⟨Ab, cb, be 4 (base.length - k)⟩, ⟨Ac, cc, be 4 (target.length - k - f)⟩, ⟨_, c2 - f, (target.take (target.length - k)).drop f⟩] _ rfl ⟨(by
                have := hS1.rdR 3 rfl
                simpa [BRec.cell, be_len, hlb] using this), fun x hx => by
                simp at hx
                rcases hx with rfl | rfl | rfl | rfl
                · exact hS1.rd 0 rfl
                · exact hS1.rd 1 rfl
                · exact hS1.rd 2 rfl
                · exact hrb.ext hS1.below⟩ (by simp) (by simp only [flatB, List.map_cons, List.map_nil, List.flatten_cons, List.flatten_nil, List.length_append, be_len, hlb]; simp; omega)).mono ?_
              rintro e x4 ⟨Ad, cd, rfl, o4, g4⟩
              have hfl : flatB [⟨Aa, ca, be 4 f⟩, ⟨Ab, cb, be 4 (base.length - k)⟩, ⟨Ac, cc, be 4 (target.length - k - f)⟩, ⟨cutA A2 c2 f 1, c2 - f, (target.take (target.length - k)).drop f⟩] = oneHk base target f k := by simp [flatB, oneHk]
              rw [hfl] at o4 ⊢
              have hbel := (hS1.ext g4).below
              have hO := o4.mono hS1.size
              have hpl : (oneHk base target f k).length ≤ 12 + target.length := by
                unfold oneHk; simp only [List.length_append, be_len, hlb]; omega
              have hM : Made base target (oneHk base target f k) := .inr ⟨Hne.out, f, k, hk1, hk2, htk.out, hdk.out, rfl⟩
              generalize oneHk base target f k = pp at *
              have HM := hide hM
              have HO := hide hO
              clear hS hS1 hfl hrb hlb o4 g4 hM hO
              go_wp2
              go_ret
              exact ⟨Ad, cd, pp, rfl, HM.out, hpl, HO.out, hbel⟩
            · skip
              have w1 : IntKind.i64.wrap ((base.length : Int) - (f : Int)) = (base.length : Int) - (f : Int) := IntWalk.i64_in _ (by omega)
              have w2 : IntKind.i64.wrap ((target.length : Int) - (f : Int)) = (target.length : Int) - (f : Int) := IntWalk.i64_in _ (by omega)
              have i1 : (k : Int) < (base.length : Int) - (f : Int) := by omega
              have d2 : decide ((k : Int) < (target.length : Int) - (f : Int)) = false := by rw [decide_eq_false_iff_not]; omega
              go_wp2_with (at_builtin; refine stopAt ?_)
              go_quiet (fail)
              clear w1 w2 d2 hx hy i1
              have hS := (Sep.start w).drewN (q + nq)
              go_wp2_with (at_builtin; refine stopAt ?_)
              refine (numsBe4N f _ (by omega)).mono ?_
              rintro e x1 ⟨Aa, ca, rfl, o1, g1⟩
              replace hS := hS.call g1 (x := .row 5 Aa ca (be 4 f)) o1
              simp only [List.cons_append, List.nil_append, List.set_cons_zero, List.set_cons_succ, List.map_cons, List.map_nil, List.getD_cons_zero, List.getD_cons_succ, Array.toList] at hS
              go_wp2_with (at_builtin; refine stopAt ?_)
              refine (numsBe4I _ _ (by omega) (by omega)).mono ?_
              rintro e x2 ⟨Ab, cb, rfl, o2, g2⟩
              rw [show ((base.length : Int) - (k : Int)).toNat = base.length - k by omega] at o2
              replace hS := hS.call g2 (x := .row 5 Ab cb (be 4 (base.length - k))) o2
              simp only [List.cons_append, List.nil_append, List.set_cons_zero, List.set_cons_succ, List.map_cons, List.map_nil, List.getD_cons_zero, List.getD_cons_succ, Array.toList] at hS
              go_wp2_with (at_builtin; refine stopAt ?_)
              refine (numsBe4I _ _ (by omega) (by omega)).mono ?_
              rintro e x3 ⟨Ac, cc, rfl, o3, g3⟩
              rw [Int.toNat_natCast] at o3
              replace hS := hS.call g3 (x := .row 5 Ac cc (be 4 (target.length - k - f))) o3
              simp only [List.cons_append, List.nil_append, List.set_cons_zero, List.set_cons_succ, List.map_cons, List.map_nil, List.getD_cons_zero, List.getD_cons_succ, Array.toList] at hS
              clear o1 o2 o3 g1 g2 g3
              go_wp2_with (at_builtin; refine stopAt ?_)
              have hS1 := hS.allocR #[.slice Aa 4 ca, .slice Ab 4 cb, .slice Ac 4 cc, .slice (cutA A2 c2 f 1) (target.length - k - f) (c2 - f)] 22 1 4 rfl (by simp [maxLen])
              simp only [List.cons_append, List.nil_append, List.set_cons_zero, List.set_cons_succ, List.map_cons, List.map_nil, List.getD_cons_zero, List.getD_cons_succ, Array.toList] at hS1
              have hlb : ((target.take (target.length - k)).drop f).length = target.length - k - f := by rw [List.length_drop, List.length_take]; omega
              have hrb := h2.cut (i := f) (j := target.length - k) (cap := c2) (by omega) (by omega) hc2
              refine (sliceConcat _ 4 4 [⟨Aa, ca, be 4 f⟩, ⟨Ab, cb, be 4 (base.length - k)⟩, ⟨Ac, cc, be 4 (target.length - k - f)⟩, ⟨_, c2 - f, (target.take (target.length - k)).drop f⟩] _ rfl ⟨(by
                have := hS1.rdR 3 rfl
                simpa [BRec.cell, be_len, hlb] using this), fun x hx => by
                simp at hx
                rcases hx with rfl | rfl | rfl | rfl
                · exact hS1.rd 0 rfl
                · exact hS1.rd 1 rfl
                · exact hS1.rd 2 rfl
                · exact hrb.ext hS1.below⟩ (by simp) (by simp only [flatB, List.map_cons, List.map_nil, List.flatten_cons, List.flatten_nil, List.length_append, be_len, hlb]; simp; omega)).mono ?_
              rintro e x4 ⟨Ad, cd, rfl, o4, g4⟩
              have hfl : flatB [⟨Aa, ca, be 4 f⟩, ⟨Ab, cb, be 4 (base.length - k)⟩, ⟨Ac, cc, be 4 (target.length - k - f)⟩, ⟨cutA A2 c2 f 1, c2 - f, (target.take (target.length - k)).drop f⟩] = oneHk base target f k := by simp [flatB, oneHk]
              rw [hfl] at o4 ⊢
              have hbel := (hS1.ext g4).below
              have hO := o4.mono hS1.size
              have hpl : (oneHk base target f k).length ≤ 12 + target.length := by
                unfold oneHk; simp only [List.length_append, be_len, hlb]; omega
              have hM : Made base target (oneHk base target f k) := .inr ⟨Hne.out, f, k, hk1, hk2, htk.out, hdk.out, rfl⟩
              generalize oneHk base target f k = pp at *
              have HM := hide hM
              have HO := hide hO
              clear hS hS1 hfl hrb hlb o4 g4 hM hO
              go_wp2
              go_ret
              exact ⟨Ad, cd, pp, rfl, HM.out, hpl, HO.out, hbel⟩
            · have t3 : (at8 base (base.length - 1 - k) == at8 target (target.length - 1 - k)) = false := by rw [beq_eq_false_iff_ne]; exact hz
              clear hz
              have w1 : IntKind.i64.wrap ((base.length : Int) - (f : Int)) = (base.length : Int) - (f : Int) := IntWalk.i64_in _ (by omega)
              have w2 : IntKind.i64.wrap ((target.length : Int) - (f : Int)) = (target.length : Int) - (f : Int) := IntWalk.i64_in _ (by omega)
              have w3 : IntKind.i64.wrap ((base.length : Int) - 1) = (base.length : Int) - 1 := IntWalk.i64_in _ (by omega)
              have w4 : IntKind.i64.wrap ((base.length : Int) - 1 - (k : Int)) = (base.length : Int) - 1 - (k : Int) := IntWalk.i64_in _ (by omega)
              have w5 : IntKind.i64.wrap ((target.length : Int) - 1) = (target.length : Int) - 1 := IntWalk.i64_in _ (by omega)
              have w6 : IntKind.i64.wrap ((target.length : Int) - 1 - (k : Int)) = (target.length : Int) - 1 - (k : Int) := IntWalk.i64_in _ (by omega)
              have p1 : 0 ≤ (base.length : Int) - 1 - (k : Int) := by omega
              have p2 : 0 ≤ (target.length : Int) - 1 - (k : Int) := by omega
              have u1 : ((base.length : Int) - 1 - (k : Int)).toNat = base.length - 1 - k := by omega
              have u2 : ((target.length : Int) - 1 - (k : Int)).toNat = target.length - 1 - k := by omega
              have v1 : (base.length : Int) - 1 - (k : Int) < (base.length : Int) := by omega
              have v2 : (target.length : Int) - 1 - (k : Int) < (target.length : Int) := by omega
              obtain ⟨b1, o1, rfl, _, hcx⟩ := h1.at_ (by omega)
              obtain ⟨b2, o2, rfl, _, hcy⟩ := h2.at_ (by omega)
              have e1 := hcx (base.length - 1 - k) (by omega)
              have e2 := hcy (target.length - 1 - k) (by omega)
              have i1 : (k : Int) < (base.length : Int) - (f : Int) := by omega
              have i2 : (k : Int) < (target.length : Int) - (f : Int) := by omega
              clear hcx hcy
              go_wp2_with (at_builtin; refine stopAt ?_)
              go_quiet (fail)
              clear w1 w2 w3 w4 w5 w6 p1 p2 u1 u2 v1 v2 e1 e2 t3 hx hy i1 i2
              have hS := (Sep.start w).drewN (q + nq)
              go_wp2_with (at_builtin; refine stopAt ?_)
              refine (numsBe4N f _ (by omega)).mono ?_
              rintro e x1 ⟨Aa, ca, rfl, o1, g1⟩
              replace hS := hS.call g1 (x := .row 5 Aa ca (be 4 f)) o1
              simp only [List.cons_append, List.nil_append, List.set_cons_zero, List.set_cons_succ, List.map_cons, List.map_nil, List.getD_cons_zero, List.getD_cons_succ, Array.toList] at hS
              go_wp2_with (at_builtin; refine stopAt ?_)
              refine (numsBe4I _ _ (by omega) (by omega)).mono ?_
              rintro e x2 ⟨Ab, cb, rfl, o2, g2⟩
              rw [show ((base.length : Int) - (k : Int)).toNat = base.length - k by omega] at o2
              replace hS := hS.call g2 (x := .row 5 Ab cb (be 4 (base.length - k))) o2
              simp only [List.cons_append, List.nil_append, List.set_cons_zero, List.set_cons_succ, List.map_cons, List.map_nil, List.getD_cons_zero, List.getD_cons_succ, Array.toList] at hS
              go_wp2_with (at_builtin; refine stopAt ?_)
              refine (numsBe4I _ _ (by omega) (by omega)).mono ?_
              rintro e x3 ⟨Ac, cc, rfl, o3, g3⟩
              rw [Int.toNat_natCast] at o3
              replace hS := hS.call g3 (x := .row 5 Ac cc (be 4 (target.length - k - f))) o3
              simp only [List.cons_append, List.nil_append, List.set_cons_zero, List.set_cons_succ, List.map_cons, List.map_nil, List.getD_cons_zero, List.getD_cons_succ, Array.toList] at hS
              clear o1 o2 o3 g1 g2 g3
              go_wp2_with (at_builtin; refine stopAt ?_)
              have hS1 := hS.allocR #[.slice Aa 4 ca, .slice Ab 4 cb, .slice Ac 4 cc, .slice (cutA (some ⟨b2, o2, none⟩) c2 f 1) (target.length - k - f) (c2 - f)] 22 1 4 rfl (by simp [maxLen])
              simp only [List.cons_append, List.nil_append, List.set_cons_zero, List.set_cons_succ, List.map_cons, List.map_nil, List.getD_cons_zero, List.getD_cons_succ, Array.toList] at hS1
              have hlb : ((target.take (target.length - k)).drop f).length = target.length - k - f := by rw [List.length_drop, List.length_take]; omega
              have hrb := h2.cut (i := f) (j := target.length - k) (cap := c2) (by omega) (by omega) hc2
              refine (sliceConcat _ 4 4 [⟨Aa, ca, be 4 f⟩, ⟨Ab, cb, be 4 (base.length - k)⟩, ⟨Ac, cc, be 4 (target.length - k - f)⟩, ⟨_, c2 - f, (target.take (target.length - k)).drop f⟩] _ rfl ⟨(by
                have := hS1.rdR 3 rfl
                simpa [BRec.cell, be_len, hlb] using this), fun x hx => by
                simp at hx
                rcases hx with rfl | rfl | rfl | rfl
                · exact hS1.rd 0 rfl
                · exact hS1.rd 1 rfl
                · exact hS1.rd 2 rfl
                · exact hrb.ext hS1.below⟩ (by simp) (by simp only [flatB, List.map_cons, List.map_nil, List.flatten_cons, List.flatten_nil, List.length_append, be_len, hlb]; simp; omega)).mono ?_
              rintro e x4 ⟨Ad, cd, rfl, o4, g4⟩
              have hfl : flatB [⟨Aa, ca, be 4 f⟩, ⟨Ab, cb, be 4 (base.length - k)⟩, ⟨Ac, cc, be 4 (target.length - k - f)⟩, ⟨cutA (some ⟨b2, o2, none⟩) c2 f 1, c2 - f, (target.take (target.length - k)).drop f⟩] = oneHk base target f k := by simp [flatB, oneHk]
              rw [hfl] at o4 ⊢
              have hbel := (hS1.ext g4).below
              have hO := o4.mono hS1.size
              have hpl : (oneHk base target f k).length ≤ 12 + target.length := by
                unfold oneHk; simp only [List.length_append, be_len, hlb]; omega
              have hM : Made base target (oneHk base target f k) := .inr ⟨Hne.out, f, k, hk1, hk2, htk.out, hdk.out, rfl⟩
              generalize oneHk base target f k = pp at *
              have HM := hide hM
              have HO := hide hO
              clear hS hS1 hfl hrb hlb o4 g4 hM hO
              go_wp2
              go_ret
              exact ⟨Ad, cd, pp, rfl, HM.out, hpl, HO.out, hbel⟩
        · obtain ⟨b1, o1, rfl, _, hcx⟩ := h1.at_ (by omega)
          obtain ⟨b2, o2, rfl, _, hcy⟩ := h2.at_ (by omega)
          have e1 := hcx f hx
          have e2 := hcy f hy
          clear hcx hcy
          have t3 : (at8 base f == at8 target f) = false := by rw [beq_eq_false_iff_ne]; exact hz
          have i1 : (f : Int) < (base.length : Int) := by omega
          have i2 : (f : Int) < (target.length : Int) := by omega
          clear hz
          go_wp2_with (at_builtin; refine stopAt ?_)
          go_quiet (fail)
          clear t3 i1 i2 e1 e2
          go_wp2_with (at_builtin; refine stopAt ?_)
          go_loopw [6] (fun i wr => ∃ k : Nat, f + k ≤ base.length ∧ f + k ≤ target.length ∧ i = .int .i64 k ∧ Hid (base.drop (base.length - k) = target.drop (target.length - k)) ∧ ∃ q, wr = w.drewN q) (fun i _ => base.length - (intOf i).toNat)
          case atStart => exact ⟨0, by omega, by omega, rfl, hide (by simp), _, World.drewN_drewN _ _ _⟩
          case round =>
            obtain ⟨k, hk1, hk2, rfl, hdk, q, rfl⟩ := hrel
            have hcase : (f + k < base.length ∧ f + k < target.length ∧ at8 base (base.length - 1 - k) = at8 target (target.length - 1 - k)) ∨ base.length ≤ f + k ∨ (f + k < base.length ∧ target.length ≤ f + k) ∨ (f + k < base.length ∧ f + k < target.length ∧ at8 base (base.length - 1 - k) ≠ at8 target (target.length - 1 - k)) := by omega
            rcases hcase with ⟨hl1, hl2, hv⟩ | hx | ⟨hx, hy⟩ | ⟨hx, hy, hz⟩
            · have Hdm := hide (drop_more base target k (by omega) (by omega) hdk.out ((by
                have := hv
                unfold at8 at this
                simp only [List.getD, List.getElem?_eq_getElem (show base.length - 1 - k < base.length by omega), List.getElem?_eq_getElem (show target.length - 1 - k < target.length by omega), Option.getD_some] at this
                exact UInt8.toNat_inj.1 (by omega))))
              have t3 : (at8 base (base.length - 1 - k) == at8 target (target.length - 1 - k)) = true := by rw [beq_iff_eq]; exact hv
              clear hv
              have w1 : IntKind.i64.wrap ((base.length : Int) - (f : Int)) = (base.length : Int) - (f : Int) := IntWalk.i64_in _ (by omega)
              have w2 : IntKind.i64.wrap ((target.length : Int) - (f : Int)) = (target.length : Int) - (f : Int) := IntWalk.i64_in _ (by omega)
              have w3 : IntKind.i64.wrap ((base.length : Int) - 1) = (base.length : Int) - 1 := IntWalk.i64_in _ (by omega)
              have w4 : IntKind.i64.wrap ((base.length : Int) - 1 - (k : Int)) = (base.length : Int) - 1 - (k : Int) := IntWalk.i64_in _ (by omega)
              have w5 : IntKind.i64.wrap ((target.length : Int) - 1) = (target.length : Int) - 1 := IntWalk.i64_in _ (by omega)
              have w6 : IntKind.i64.wrap ((target.length : Int) - 1 - (k : Int)) = (target.length : Int) - 1 - (k : Int) := IntWalk.i64_in _ (by omega)
              have p1 : 0 ≤ (base.length : Int) - 1 - (k : Int) := by omega
              have p2 : 0 ≤ (target.length : Int) - 1 - (k : Int) := by omega
              have u1 : ((base.length : Int) - 1 - (k : Int)).toNat = base.length - 1 - k := by omega
              have u2 : ((target.length : Int) - 1 - (k : Int)).toNat = target.length - 1 - k := by omega
              have v1 : (base.length : Int) - 1 - (k : Int) < (base.length : Int) := by omega
              have v2 : (target.length : Int) - 1 - (k : Int) < (target.length : Int) := by omega
              have hcx := h1.atS
              have hcy := h2.atS
              have e1 := hcx (base.length - 1 - k) (by omega)
              have e2 := hcy (target.length - 1 - k) (by omega)
              have i1 : (k : Int) < (base.length : Int) - (f : Int) := by omega
              have i2 : (k : Int) < (target.length : Int) - (f : Int) := by omega
              clear hcx hcy
              go_wp2_with (at_builtin; refine stopAt ?_)
              go_quiet (fail)
              clear w1 w2 w3 w4 w5 w6 p1 p2 u1 u2 v1 v2 e1 e2 t3
              go_wp2
              go_roundw
              case rel => exact ⟨k + 1, by omega, by omega, by go_num, hide Hdm.out, _, rfl⟩
              case measure => simp [intOf]; omega
            · skip
              have w1 : IntKind.i64.wrap ((base.length : Int) - (f : Int)) = (base.length : Int) - (f : Int) := IntWalk.i64_in _ (by omega)
              have w2 : IntKind.i64.wrap ((target.length : Int) - (f : Int)) = (target.length : Int) - (f : Int) := IntWalk.i64_in _ (by omega)
              have d1 : decide ((k : Int) < (base.length : Int) - (f : Int)) = false := by rw [decide_eq_false_iff_not]; omega
              go_wp2_with (at_builtin; refine stopAt ?_)
              go_quiet (fail)
              clear w1 w2 d1 hx
              have hS := (Sep.start w).drewN (q + nq)
              go_wp2_with (at_builtin; refine stopAt ?_)
              refine (numsBe4N f _ (by omega)).mono ?_
              rintro e x1 ⟨Aa, ca, rfl, o1, g1⟩
              replace hS := hS.call g1 (x := .row 5 Aa ca (be 4 f)) o1
              simp only [List.cons_append, List.nil_append, List.set_cons_zero, List.set_cons_succ, List.map_cons, List.map_nil, List.getD_cons_zero, List.getD_cons_succ, Array.toList] at hS
              go_wp2_with (at_builtin; refine stopAt ?_)
              refine (numsBe4I _ _ (by omega) (by omega)).mono ?_
              rintro e x2 ⟨Ab, cb, rfl, o2, g2⟩
              rw [show ((base.length : Int) - (k : Int)).toNat = base.length - k by omega] at o2
              replace hS := hS.call g2 (x := .row 5 Ab cb (be 4 (base.length - k))) o2
              simp only [List.cons_append, List.nil_append, List.set_cons_zero, List.set_cons_succ, List.map_cons, List.map_nil, List.getD_cons_zero, List.getD_cons_succ, Array.toList] at hS
              go_wp2_with (at_builtin; refine stopAt ?_)
              refine (numsBe4I _ _ (by omega) (by omega)).mono ?_
              rintro e x3 ⟨Ac, cc, rfl, o3, g3⟩
              rw [Int.toNat_natCast] at o3
              replace hS := hS.call g3 (x := .row 5 Ac cc (be 4 (target.length - k - f))) o3
              simp only [List.cons_append, List.nil_append, List.set_cons_zero, List.set_cons_succ, List.map_cons, List.map_nil, List.getD_cons_zero, List.getD_cons_succ, Array.toList] at hS
              clear o1 o2 o3 g1 g2 g3
              go_wp2_with (at_builtin; refine stopAt ?_)
              have hS1 := hS.allocR #[.slice Aa 4 ca, .slice Ab 4 cb, .slice Ac 4 cc, .slice (cutA (some ⟨b2, o2, none⟩) c2 f 1) (target.length - k - f) (c2 - f)] 22 1 4 rfl (by simp [maxLen])
              simp only [List.cons_append, List.nil_append, List.set_cons_zero, List.set_cons_succ, List.map_cons, List.map_nil, List.getD_cons_zero, List.getD_cons_succ, Array.toList] at hS1
              have hlb : ((target.take (target.length - k)).drop f).length = target.length - k - f := by rw [List.length_drop, List.length_take]; omega
              have hrb := h2.cut (i := f) (j := target.length - k) (cap := c2) (by omega) (by omega) hc2
              refine (sliceConcat _ 4 4 [⟨Aa, ca, be 4 f⟩, ⟨Ab, cb, be 4 (base.length - k)⟩, ⟨Ac, cc, be 4 (target.length - k - f)⟩, ⟨_, c2 - f, (target.take (target.length - k)).drop f⟩] _ rfl ⟨(by
                have := hS1.rdR 3 rfl
                simpa [BRec.cell, be_len, hlb] using this), fun x hx => by
                simp at hx
                rcases hx with rfl | rfl | rfl | rfl
                · exact hS1.rd 0 rfl
                · exact hS1.rd 1 rfl
                · exact hS1.rd 2 rfl
                · exact hrb.ext hS1.below⟩ (by simp) (by simp only [flatB, List.map_cons, List.map_nil, List.flatten_cons, List.flatten_nil, List.length_append, be_len, hlb]; simp; omega)).mono ?_
              rintro e x4 ⟨Ad, cd, rfl, o4, g4⟩
              have hfl : flatB [⟨Aa, ca, be 4 f⟩, ⟨Ab, cb, be 4 (base.length - k)⟩, ⟨Ac, cc, be 4 (target.length - k - f)⟩, ⟨cutA (some ⟨b2, o2, none⟩) c2 f 1, c2 - f, (target.take (target.length - k)).drop f⟩] = oneHk base target f k := by simp [flatB, oneHk]
              rw [hfl] at o4 ⊢
              have hbel := (hS1.ext g4).below
              have hO := o4.mono hS1.size
              have hpl : (oneHk base target f k).length ≤ 12 + target.length := by
                unfold oneHk; simp only [List.length_append, be_len, hlb]; omega
              have hM : Made base target (oneHk base target f k) := .inr ⟨Hne.out, f, k, hk1, hk2, htk.out, hdk.out, rfl⟩
              generalize oneHk base target f k = pp at *
              have HM := hide hM
              have HO := hide hO
              clear hS hS1 hfl hrb hlb o4 g4 hM hO
              go_wp2
              go_ret
              exact ⟨Ad, cd, pp, rfl, HM.out, hpl, HO.out, hbel⟩
            · skip
              have w1 : IntKind.i64.wrap ((base.length : Int) - (f : Int)) = (base.length : Int) - (f : Int) := IntWalk.i64_in _ (by omega)
              have w2 : IntKind.i64.wrap ((target.length : Int) - (f : Int)) = (target.length : Int) - (f : Int) := IntWalk.i64_in _ (by omega)
              have i1 : (k : Int) < (base.length : Int) - (f : Int) := by omega
              have d2 : decide ((k : Int) < (target.length : Int) - (f : Int)) = false := by rw [decide_eq_false_iff_not]; omega
              go_wp2_with (at_builtin; refine stopAt ?_)
              go_quiet (fail)
              clear w1 w2 d2 hx hy i1
              have hS := (Sep.start w).drewN (q + nq)
              go_wp2_with (at_builtin; refine stopAt ?_)
              refine (numsBe4N f _ (by omega)).mono ?_
              rintro e x1 ⟨Aa, ca, rfl, o1, g1⟩
              replace hS := hS.call g1 (x := .row 5 Aa ca (be 4 f)) o1
              simp only [List.cons_append, List.nil_append, List.set_cons_zero, List.set_cons_succ, List.map_cons, List.map_nil, List.getD_cons_zero, List.getD_cons_succ, Array.toList] at hS
              go_wp2_with (at_builtin; refine stopAt ?_)
              refine (numsBe4I _ _ (by omega) (by omega)).mono ?_
              rintro e x2 ⟨Ab, cb, rfl, o2, g2⟩
              rw [show ((base.length : Int) - (k : Int)).toNat = base.length - k by omega] at o2
              replace hS := hS.call g2 (x := .row 5 Ab cb (be 4 (base.length - k))) o2
              simp only [List.cons_append, List.nil_append, List.set_cons_zero, List.set_cons_succ, List.map_cons, List.map_nil, List.getD_cons_zero, List.getD_cons_succ, Array.toList] at hS
              go_wp2_with (at_builtin; refine stopAt ?_)
              refine (numsBe4I _ _ (by omega) (by omega)).mono ?_
              rintro e x3 ⟨Ac, cc, rfl, o3, g3⟩
              rw [Int.toNat_natCast] at o3
              replace hS := hS.call g3 (x := .row 5 Ac cc (be 4 (target.length - k - f))) o3
              simp only [List.cons_append, List.nil_append, List.set_cons_zero, List.set_cons_succ, List.map_cons, List.map_nil, List.getD_cons_zero, List.getD_cons_succ, Array.toList] at hS
              clear o1 o2 o3 g1 g2 g3
              go_wp2_with (at_builtin; refine stopAt ?_)
              have hS1 := hS.allocR #[.slice Aa 4 ca, .slice Ab 4 cb, .slice Ac 4 cc, .slice (cutA (some ⟨b2, o2, none⟩) c2 f 1) (target.length - k - f) (c2 - f)] 22 1 4 rfl (by simp [maxLen])
              simp only [List.cons_append, List.nil_append, List.set_cons_zero, List.set_cons_succ, List.map_cons, List.map_nil, List.getD_cons_zero, List.getD_cons_succ, Array.toList] at hS1
              have hlb : ((target.take (target.length - k)).drop f).length = target.length - k - f := by rw [List.length_drop, List.length_take]; omega
              have hrb := h2.cut (i := f) (j := target.length - k) (cap := c2) (by omega) (by omega) hc2
              refine (sliceConcat _ 4 4 [⟨Aa, ca, be 4 f⟩, ⟨Ab, cb, be 4 (base.length - k)⟩, ⟨Ac, cc, be 4 (target.length - k - f)⟩, ⟨_, c2 - f, (target.take (target.length - k)).drop f⟩] _ rfl ⟨(by
                have := hS1.rdR 3 rfl
                simpa [BRec.cell, be_len, hlb] using this), fun x hx => by
                simp at hx
                rcases hx with rfl | rfl | rfl | rfl
                · exact hS1.rd 0 rfl
                · exact hS1.rd 1 rfl
                · exact hS1.rd 2 rfl
                · exact hrb.ext hS1.below⟩ (by simp) (by simp only [flatB, List.map_cons, List.map_nil, List.flatten_cons, List.flatten_nil, List.length_append, be_len, hlb]; simp; omega)).mono ?_
              rintro e x4 ⟨Ad, cd, rfl, o4, g4⟩
              have hfl : flatB [⟨Aa, ca, be 4 f⟩, ⟨Ab, cb, be 4 (base.length - k)⟩, ⟨Ac, cc, be 4 (target.length - k - f)⟩, ⟨cutA (some ⟨b2, o2, none⟩) c2 f 1, c2 - f, (target.take (target.length - k)).drop f⟩] = oneHk base target f k := by simp [flatB, oneHk]
              rw [hfl] at o4 ⊢
              have hbel := (hS1.ext g4).below
              have hO := o4.mono hS1.size
              have hpl : (oneHk base target f k).length ≤ 12 + target.length := by
                unfold oneHk; simp only [List.length_append, be_len, hlb]; omega
              have hM : Made base target (oneHk base target f k) := .inr ⟨Hne.out, f, k, hk1, hk2, htk.out, hdk.out, rfl⟩
              generalize oneHk base target f k = pp at *
              have HM := hide hM
              have HO := hide hO
              clear hS hS1 hfl hrb hlb o4 g4 hM hO
              go_wp2
              go_ret
              exact ⟨Ad, cd, pp, rfl, HM.out, hpl, HO.out, hbel⟩
            · have t3 : (at8 base (base.length - 1 - k) == at8 target (target.length - 1 - k)) = false := by rw [beq_eq_false_iff_ne]; exact hz
              clear hz
              have w1 : IntKind.i64.wrap ((base.length : Int) - (f : Int)) = (base.length : Int) - (f : Int) := IntWalk.i64_in _ (by omega)
              have w2 : IntKind.i64.wrap ((target.length : Int) - (f : Int)) = (target.length : Int) - (f : Int) := IntWalk.i64_in _ (by omega)
              have w3 : IntKind.i64.wrap ((base.length : Int) - 1) = (base.length : Int) - 1 := IntWalk.i64_in _ (by omega)
              have w4 : IntKind.i64.wrap ((base.length : Int) - 1 - (k : Int)) = (base.length : Int) - 1 - (k : Int) := IntWalk.i64_in _ (by omega)
              have w5 : IntKind.i64.wrap ((target.length : Int) - 1) = (target.length : Int) - 1 := IntWalk.i64_in _ (by omega)
              have w6 : IntKind.i64.wrap ((target.length : Int) - 1 - (k : Int)) = (target.length : Int) - 1 - (k : Int) := IntWalk.i64_in _ (by omega)
              have p1 : 0 ≤ (base.length : Int) - 1 - (k : Int) := by omega
              have p2 : 0 ≤ (target.length : Int) - 1 - (k : Int) := by omega
              have u1 : ((base.length : Int) - 1 - (k : Int)).toNat = base.length - 1 - k := by omega
              have u2 : ((target.length : Int) - 1 - (k : Int)).toNat = target.length - 1 - k := by omega
              have v1 : (base.length : Int) - 1 - (k : Int) < (base.length : Int) := by omega
              have v2 : (target.length : Int) - 1 - (k : Int) < (target.length : Int) := by omega
              have hcx := h1.atS
              have hcy := h2.atS
              have e1 := hcx (base.length - 1 - k) (by omega)
              have e2 := hcy (target.length - 1 - k) (by omega)
              have i1 : (k : Int) < (base.length : Int) - (f : Int) := by omega
              have i2 : (k : Int) < (target.length : Int) - (f : Int) := by omega
              clear hcx hcy
              go_wp2_with (at_builtin; refine stopAt ?_)
              go_quiet (fail)
              clear w1 w2 w3 w4 w5 w6 p1 p2 u1 u2 v1 v2 e1 e2 t3 hx hy i1 i2
              have hS := (Sep.start w).drewN (q + nq)
              go_wp2_with (at_builtin; refine stopAt ?_)
              refine (numsBe4N f _ (by omega)).mono ?_
              rintro e x1 ⟨Aa, ca, rfl, o1, g1⟩
              replace hS := hS.call g1 (x := .row 5 Aa ca (be 4 f)) o1
              simp only [List.cons_append, List.nil_append, List.set_cons_zero, List.set_cons_succ, List.map_cons, List.map_nil, List.getD_cons_zero, List.getD_cons_succ, Array.toList] at hS
              go_wp2_with (at_builtin; refine stopAt ?_)
              refine (numsBe4I _ _ (by omega) (by omega)).mono ?_
              rintro e x2 ⟨Ab, cb, rfl, o2, g2⟩
              rw [show ((base.length : Int) - (k : Int)).toNat = base.length - k by omega] at o2
              replace hS := hS.call g2 (x := .row 5 Ab cb (be 4 (base.length - k))) o2
              simp only [List.cons_append, List.nil_append, List.set_cons_zero, List.set_cons_succ, List.map_cons, List.map_nil, List.getD_cons_zero, List.getD_cons_succ, Array.toList] at hS
              go_wp2_with (at_builtin; refine stopAt ?_)
              refine (numsBe4I _ _ (by omega) (by omega)).mono ?_
              rintro e x3 ⟨Ac, cc, rfl, o3, g3⟩
              rw [Int.toNat_natCast] at o3
              replace hS := hS.call g3 (x := .row 5 Ac cc (be 4 (target.length - k - f))) o3
              simp only [List.cons_append, List.nil_append, List.set_cons_zero, List.set_cons_succ, List.map_cons, List.map_nil, List.getD_cons_zero, List.getD_cons_succ, Array.toList] at hS
              clear o1 o2 o3 g1 g2 g3
              go_wp2_with (at_builtin; refine stopAt ?_)
              have hS1 := hS.allocR #[.slice Aa 4 ca, .slice Ab 4 cb, .slice Ac 4 cc, .slice (cutA (some ⟨b2, o2, none⟩) c2 f 1) (target.length - k - f) (c2 - f)] 22 1 4 rfl (by simp [maxLen])
              simp only [List.cons_append, List.nil_append, List.set_cons_zero, List.set_cons_succ, List.map_cons, List.map_nil, List.getD_cons_zero, List.getD_cons_succ, Array.toList] at hS1
              have hlb : ((target.take (target.length - k)).drop f).length = target.length - k - f := by rw [List.length_drop, List.length_take]; omega
              have hrb := h2.cut (i := f) (j := target.length - k) (cap := c2) (by omega) (by omega) hc2
              refine (sliceConcat _ 4 4 [⟨Aa, ca, be 4 f⟩, ⟨Ab, cb, be 4 (base.length - k)⟩, ⟨Ac, cc, be 4 (target.length - k - f)⟩, ⟨_, c2 - f, (target.take (target.length - k)).drop f⟩] _ rfl ⟨(by
                have := hS1.rdR 3 rfl
                simpa [BRec.cell, be_len, hlb] using this), fun x hx => by
                simp at hx
                rcases hx with rfl | rfl | rfl | rfl
                · exact hS1.rd 0 rfl
                · exact hS1.rd 1 rfl
                · exact hS1.rd 2 rfl
                · exact hrb.ext hS1.below⟩ (by simp) (by simp only [flatB, List.map_cons, List.map_nil, List.flatten_cons, List.flatten_nil, List.length_append, be_len, hlb]; simp; omega)).mono ?_
              rintro e x4 ⟨Ad, cd, rfl, o4, g4⟩
              have hfl : flatB [⟨Aa, ca, be 4 f⟩, ⟨Ab, cb, be 4 (base.length - k)⟩, ⟨Ac, cc, be 4 (target.length - k - f)⟩, ⟨cutA (some ⟨b2, o2, none⟩) c2 f 1, c2 - f, (target.take (target.length - k)).drop f⟩] = oneHk base target f k := by simp [flatB, oneHk]
              rw [hfl] at o4 ⊢
              have hbel := (hS1.ext g4).below
              have hO := o4.mono hS1.size
              have hpl : (oneHk base target f k).length ≤ 12 + target.length := by
                unfold oneHk; simp only [List.length_append, be_len, hlb]; omega
              have hM : Made base target (oneHk base target f k) := .inr ⟨Hne.out, f, k, hk1, hk2, htk.out, hdk.out, rfl⟩
              generalize oneHk base target f k = pp at *
              have HM := hide hM
              have HO := hide hO
              clear hS hS1 hfl hrb hlb o4 g4 hM hO
              go_wp2
              go_ret
              exact ⟨Ad, cd, pp, rfl, HM.out, hpl, HO.out, hbel⟩
end Go.Proofs.Ytjfmendfhpgopaa
