/- What the document's 'Print' of layer 15 compute. -/
import Derived.Test.YtcnfglnnmmhfiaaBe
import Derived.Test.YtcnfglnnmmhfiaaParse
import Derived.BigQuiet
import Derived.Deep.QuietTactic
namespace Go.Proofs.Ytcnfglnnmmhfiaa
set_option linter.all false
open Go.RowKit

set_option maxHeartbeats 1000000 in
theorem refPrint (A : Option Addr) (n c : Nat) (hs : List HRec) (w : World) (hn : n = hs.length) (hr : RdH w A hs) (hl : hs.length ≤ 1048576) (hb : bodyLen hs ≤ 1099511627776) :
    Calls Try.prog 6 #[.slice A n c] w fun e w' => ∃ A' c', e = .returned (.slice A' (printB hs).length c') ∧ Own w' w.heap.size 5 A' c' (printB hs) ∧ Below w.heap.size w w' := by
  subst hn
  go_enter Try.func6, Try.ntmps6
  go_wp2
  go_loopw [3, 4] (fun b i wr => ∃ k : Nat, k ≤ hs.length ∧ i = .int .i64 k ∧ ∃ A' c', b = .slice A' (printB (hs.take k)).length c' ∧ Own wr w.heap.size 5 A' c' (printB (hs.take k)) ∧ Below w.heap.size w wr)
    (fun _ i _ => hs.length - (intOf i).toNat)
  case atStart => exact ⟨0, Nat.zero_le _, rfl, none, 0, rfl, Own.nil _ _ _, Below.refl _ _⟩
  case round =>
    obtain ⟨k, hk, rfl, A', c', rfl, hown, hbel⟩ := hrel
    by_cases hlt : k < hs.length
    · have hrw := hr.ext hbel
      obtain ⟨b, o, rfl, hblt, hc⟩ := hrw.at_ (by omega)
      obtain ⟨g0, g1, g2⟩ := hc k hlt
      have hbb : b < w.heap.size := by
        obtain ⟨b2, o2, e2, h2, _⟩ := hr.at_ (by omega)
        cases e2; exact h2
      have hpl := printB_len (hs.take k)
      have hbl := bodyLen_take hs k
      have hbg := bodyLen_get hs k hlt
      have hpt := hide (printB_take hs k hlt)
      have htl : (hs.take k).length = k := by rw [List.length_take]; omega
      have hrb := hrw.2 hs[k] (List.getElem_mem hlt)
      rw [htl] at hpl
      have Hpl := hide hpl
      clear hpl htl hc
      have hmem := List.getElem_mem hlt
      generalize hs[k] = hk' at *
      have hs0 := hbel.size
      have TR := hide (show ∀ W, Below w.heap.size w W → ∀ j u, wr.cell? ⟨b, j, none⟩ = some u → W.cell? ⟨b, j, none⟩ = some u from fun W hW j u h => (hW.cell (p := ⟨b, j, none⟩) hbb).trans ((hbel.cell (p := ⟨b, j, none⟩) hbb).symm.trans h))
      have HRB := hide (show ∀ W, Below w.heap.size w W → Rd W hk'.A hk'.b from fun W hW => by
        have h1 : hk' ∈ hs := hmem
        exact (hr.2 hk' h1).ext hW)
      generalize hL1 : printB (hs.take k) = L1 at *
      have hl1 : L1.length ≤ 12 * k + bodyLen hs := by rw [Hpl.out]; omega
      clear hr hrw hL1
      go_wp2_with (at_builtin; refine stopAt ?_)
      refine (refBe4 _ _).mono ?_
      rintro e w1 ⟨A1, c1, rfl, o1, hb1⟩
      have hs1 := hb1.size
      go_wp2_with (at_builtin; refine stopAt ?_)
      refine unstop (wpList_app _ rfl _ _ byt rfl rfl rfl (hown.ext hb1) o1.rd rfl (by rw [be_len]) (by rw [be_len]; omega) (by omega) ?_)
      intro A2 c2 w2 hown2 hg2 _
      have hbel2 : Below w.heap.size w w2 := (hown.ext hb1).below (hbel.trans (hb1.mono hs0)) (by omega) (Nat.le_refl _) hg2
      clear o1 hb1 hg2 hown
      have hl2 : (L1 ++ be 4 (u64 hk'.f)).length ≤ 12 * k + bodyLen hs + 4 := by rw [List.length_append, be_len]; omega
      generalize hL2 : L1 ++ be 4 (u64 hk'.f) = L2 at hown2 hl2 hpt ⊢
      clear hL2
      have hs2 := hbel2.size
      have g1' := TR.out w2 hbel2 _ _ g1
      go_wp2_with (at_builtin; refine stopAt ?_)
      refine (refBe4 _ _).mono ?_
      rintro e w3 ⟨A3, c3, rfl, o3, hb3⟩
      have hs3 := hb3.size
      go_wp2_with (at_builtin; refine stopAt ?_)
      refine unstop (wpList_app _ rfl _ _ byt rfl rfl rfl (hown2.ext hb3) o3.rd rfl (by rw [be_len]) (by rw [be_len]; omega) (by omega) ?_)
      intro A4 c4 w4 hown4 hg4 _
      have hbel4 : Below w.heap.size w w4 := (hown2.ext hb3).below (hbel2.trans (hb3.mono hs2)) (by omega) (Nat.le_refl _) hg4
      clear o3 hb3 hg4 hown2
      have hl4 : (L2 ++ be 4 (u64 hk'.t)).length ≤ 12 * k + bodyLen hs + 8 := by rw [List.length_append, be_len]; omega
      generalize hL4 : L2 ++ be 4 (u64 hk'.t) = L4 at hown4 hl4 hpt ⊢
      clear hL4
      have hs4 := hbel4.size
      have g2' := TR.out w4 hbel4 _ _ g2
      go_wp2_with (at_builtin; refine stopAt ?_)
      refine (refBe4N _ _ (by omega)).mono ?_
      rintro e w5 ⟨A5, c5, rfl, o5, hb5⟩
      have hs5 := hb5.size
      go_wp2_with (at_builtin; refine stopAt ?_)
      refine unstop (wpList_app _ rfl _ _ byt rfl rfl rfl (hown4.ext hb5) o5.rd rfl (by rw [be_len]) (by rw [be_len]; omega) (by omega) ?_)
      intro A6 c6 w6 hown6 hg6 _
      have hbel6 : Below w.heap.size w w6 := (hown4.ext hb5).below (hbel4.trans (hb5.mono hs4)) (by omega) (Nat.le_refl _) hg6
      clear o5 hb5 hg6 hown4
      have hl6 : (L4 ++ be 4 hk'.b.length).length ≤ 12 * k + bodyLen hs + 12 := by rw [List.length_append, be_len]; omega
      generalize hL6 : L4 ++ be 4 hk'.b.length = L6 at hown6 hl6 hpt ⊢
      clear hL6
      have hs6 := hbel6.size
      have g3' := TR.out w6 hbel6 _ _ g2
      go_wp2_with (at_builtin; refine stopAt ?_)
      refine unstop (wpList_app _ rfl _ _ byt rfl rfl rfl hown6 (HRB.out w6 hbel6) rfl rfl (by omega) (by omega) ?_)
      intro A8 c8 w8 hown8 hg8 _
      have hbel8 : Below w.heap.size w w8 := hown6.below hbel6 (by omega) (Nat.le_refl _) hg8
      clear hg8 hown6
      rw [← hpt.out] at hown8
      have hpt2 := hpt.out
      rw [← hpt2]
      clear hpt2
      generalize hL8 : printB (hs.take (k + 1)) = L8 at hown8 ⊢
      have HL8 := hide hL8
      clear hL8
      go_wp2_with (at_builtin; refine stopAt ?_)
      go_roundw
      case rel => exact ⟨k + 1, by omega, by go_num, A8, c8, by rw [HL8.out], by rw [HL8.out]; exact hown8, hbel8⟩
      case measure => simp [intOf]; omega
    · obtain rfl : k = hs.length := by omega
      rw [List.take_length] at hown ⊢
      go_wp2
      go_ret
      exact ⟨A', c', rfl, hown, hbel⟩

end Go.Proofs.Ytcnfglnnmmhfiaa
