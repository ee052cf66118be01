/- What the document's 'number', 'Print' and 'Apply' of layer 15 compute. -/
import Derived.Test.YtjfmendfhpgopaaBe
import Derived.Test.YtjfmendfhpgopaaParse
import Derived.BigQuiet
import Derived.Deep.QuietTactic
namespace Go.Proofs.Ytjfmendfhpgopaa
set_option linter.all false
open Go.RowKit

theorem beVal4 (l : List UInt8) (k : Nat) (h : k + 4 ≤ l.length) : ((beVal ((l.take (k + 4)).drop k) : Nat) : Int) = at8 l k * 16777216 + at8 l (k + 1) * 65536 + at8 l (k + 2) * 256 + at8 l (k + 3) := by
  have e : (l.take (k + 4)).drop k = [l[k], l[k + 1], l[k + 2], l[k + 3]] := by
    apply List.ext_getElem
    · rw [part_len _ _ _ h]; simp
    · intro i h1 h2
      have hi : i < 4 := by simpa using h2
      simp only [List.getElem_drop, List.getElem_take]
      match i, hi with
      | 0, _ => rfl
      | 1, _ => rfl
      | 2, _ => rfl
      | 3, _ => rfl
  rw [e]
  simp [beVal, at8, List.getD, show k < l.length by omega, show k + 1 < l.length by omega, show k + 2 < l.length by omega, show k + 3 < l.length by omega]
  omega

set_option maxHeartbeats 1000000 in
theorem refNumber (A : Option Addr) (n c : Nat) (l : List UInt8) (k : Int) (w : World) (hn : n = l.length) (hr : Rd w A l) (h0 : 0 ≤ k) (hk : k + 4 ≤ l.length) (hl : l.length ≤ 140737488355328) :
    Calls Try.prog 18 #[.slice A n c, .int .i64 k] w fun e w' => e = .returned (.int .i64 (beVal ((l.take (k.toNat + 4)).drop k.toNat) : Nat)) ∧ ∃ m, w' = w.drewN m := by
  subst hn
  obtain ⟨k, rfl⟩ := Int.eq_ofNat_of_zero_le h0
  have hkn : k + 4 ≤ l.length := by omega
  obtain ⟨b, o, rfl, hb, hcell⟩ := hr.at_ (by omega)
  have g0 := hcell k (by omega)
  have g1 := hcell (k + 1) (by omega)
  have g2 := hcell (k + 2) (by omega)
  have g3 := hcell (k + 3) (by omega)
  have hv := hide (beVal4 l k hkn)
  have l0 := at8_lo l k
  have l1 := at8_lo l (k + 1)
  have l2 := at8_lo l (k + 2)
  have l3 := at8_lo l (k + 3)
  have u0 := at8_hi l k
  have u1 := at8_hi l (k + 1)
  have u2 := at8_hi l (k + 2)
  have u3 := at8_hi l (k + 3)
  clear hcell hr h0
  rw [Int.toNat_natCast]
  generalize at8 l k = a0 at *
  generalize at8 l (k + 1) = a1 at *
  generalize at8 l (k + 2) = a2 at *
  generalize at8 l (k + 3) = a3 at *
  have b0 : (k : Int) < (l.length : Int) := by omega
  have b1 : (k : Int) + 1 < (l.length : Int) := by omega
  have b2 : (k : Int) + 2 < (l.length : Int) := by omega
  have b3 : (k : Int) + 3 < (l.length : Int) := by omega
  go_enter Try.func18, Try.ntmps18
  go_wp2
  go_quiet (fail)
  go_wp2
  go_ret
  exact ⟨by rw [hv.out]; rfl, _, rfl⟩

set_option maxHeartbeats 1000000 in
theorem refPrint (A : Option Addr) (n c : Nat) (hs : List HRec) (w : World) (hn : n = hs.length) (hr : RdH w A hs) (hl : hs.length ≤ 1048576) (hb : bodyLen hs ≤ 1099511627776) :
    Calls Try.prog 9 #[.slice A n c] w fun e w' => ∃ A' c', e = .returned (.slice A' (printB hs).length c') ∧ Own w' w.heap.size 5 A' c' (printB hs) ∧ Below w.heap.size w w' := by
  subst hn
  go_enter Try.func9, Try.ntmps9
  go_wp2
  go_loopw [3, 4] (fun b i wr => ∃ k : Nat, k ≤ hs.length ∧ i = .int .i64 k ∧ ∃ A' c', b = .slice A' (printB (hs.take k)).length c' ∧ Own wr w.heap.size 5 A' c' (printB (hs.take k)) ∧ Below w.heap.size w wr)
    (fun _ i _ => hs.length - (intOf i).toNat)
  case atStart => exact ⟨0, Nat.zero_le _, rfl, none, 0, rfl, Own.nil _ _ _, Below.refl _ _⟩
  case round =>
    obtain ⟨k, hk, rfl, A', c', rfl, hown, hbel⟩ := hrel
    by_cases hlt : k < hs.length
    · have hrw := hr.ext hbel
      obtain ⟨b, o, rfl, hblt, hc⟩ := hrw.at_ (by omega)
      obtain ⟨g0, g1, g2⟩ := hc k hlt
      have hbb : b < w.heap.size := by
        obtain ⟨b2, o2, e2, h2, _⟩ := hr.at_ (by omega)
        cases e2; exact h2
      have hpl := printB_len (hs.take k)
      have hbl := bodyLen_take hs k
      have hbg := bodyLen_get hs k hlt
      have hpt := hide (printB_take hs k hlt)
      have htl : (hs.take k).length = k := by rw [List.length_take]; omega
      have hrb := hrw.2 hs[k] (List.getElem_mem hlt)
      rw [htl] at hpl
      have Hpl := hide hpl
      clear hpl htl hc
      have hmem := List.getElem_mem hlt
      generalize hs[k] = hk' at *
      have hs0 := hbel.size
      have TR := hide (show ∀ W, Below w.heap.size w W → ∀ j u, wr.cell? ⟨b, j, none⟩ = some u → W.cell? ⟨b, j, none⟩ = some u from fun W hW j u h => (hW.cell (p := ⟨b, j, none⟩) hbb).trans ((hbel.cell (p := ⟨b, j, none⟩) hbb).symm.trans h))
      have HRB := hide (show ∀ W, Below w.heap.size w W → Rd W hk'.A hk'.b from fun W hW => by
        have h1 : hk' ∈ hs := hmem
        exact (hr.2 hk' h1).ext hW)
      generalize hL1 : printB (hs.take k) = L1 at *
      have hl1 : L1.length ≤ 12 * k + bodyLen hs := by rw [Hpl.out]; omega
      clear hr hrw hL1
      go_wp2_with (at_builtin; refine stopAt ?_)
      refine (refBe4 _ _).mono ?_
      rintro e w1 ⟨A1, c1, rfl, o1, hb1⟩
      have hs1 := hb1.size
      go_wp2_with (at_builtin; refine stopAt ?_)
      refine unstop (wpList_app _ rfl _ _ byt rfl rfl rfl (hown.ext hb1) o1.rd rfl (by rw [be_len]) (by rw [be_len]; omega) (by omega) ?_)
      intro A2 c2 w2 hown2 hg2 _
      have hbel2 : Below w.heap.size w w2 := (hown.ext hb1).below (hbel.trans (hb1.mono hs0)) (by omega) (Nat.le_refl _) hg2
      clear o1 hb1 hg2 hown
      have hl2 : (L1 ++ be 4 (u64 hk'.f)).length ≤ 12 * k + bodyLen hs + 4 := by rw [List.length_append, be_len]; omega
      generalize hL2 : L1 ++ be 4 (u64 hk'.f) = L2 at hown2 hl2 hpt ⊢
      clear hL2
      have hs2 := hbel2.size
      have g1' := TR.out w2 hbel2 _ _ g1
      go_wp2_with (at_builtin; refine stopAt ?_)
      refine (refBe4 _ _).mono ?_
      rintro e w3 ⟨A3, c3, rfl, o3, hb3⟩
      have hs3 := hb3.size
      go_wp2_with (at_builtin; refine stopAt ?_)
      refine unstop (wpList_app _ rfl _ _ byt rfl rfl rfl (hown2.ext hb3) o3.rd rfl (by rw [be_len]) (by rw [be_len]; omega) (by omega) ?_)
      intro A4 c4 w4 hown4 hg4 _
      have hbel4 : Below w.heap.size w w4 := (hown2.ext hb3).below (hbel2.trans (hb3.mono hs2)) (by omega) (Nat.le_refl _) hg4
      clear o3 hb3 hg4 hown2
      have hl4 : (L2 ++ be 4 (u64 hk'.t)).length ≤ 12 * k + bodyLen hs + 8 := by rw [List.length_append, be_len]; omega
      generalize hL4 : L2 ++ be 4 (u64 hk'.t) = L4 at hown4 hl4 hpt ⊢
      clear hL4
      have hs4 := hbel4.size
      have g2' := TR.out w4 hbel4 _ _ g2
      go_wp2_with (at_builtin; refine stopAt ?_)
      refine (refBe4N _ _ (by omega)).mono ?_
      rintro e w5 ⟨A5, c5, rfl, o5, hb5⟩
      have hs5 := hb5.size
      go_wp2_with (at_builtin; refine stopAt ?_)
      refine unstop (wpList_app _ rfl _ _ byt rfl rfl rfl (hown4.ext hb5) o5.rd rfl (by rw [be_len]) (by rw [be_len]; omega) (by omega) ?_)
      intro A6 c6 w6 hown6 hg6 _
      have hbel6 : Below w.heap.size w w6 := (hown4.ext hb5).below (hbel4.trans (hb5.mono hs4)) (by omega) (Nat.le_refl _) hg6
      clear o5 hb5 hg6 hown4
      have hl6 : (L4 ++ be 4 hk'.b.length).length ≤ 12 * k + bodyLen hs + 12 := by rw [List.length_append, be_len]; omega
      generalize hL6 : L4 ++ be 4 hk'.b.length = L6 at hown6 hl6 hpt ⊢
      clear hL6
      have hs6 := hbel6.size
      have g3' := TR.out w6 hbel6 _ _ g2
      go_wp2_with (at_builtin; refine stopAt ?_)
      refine unstop (wpList_app _ rfl _ _ byt rfl rfl rfl hown6 (HRB.out w6 hbel6) rfl rfl (by omega) (by omega) ?_)
      intro A8 c8 w8 hown8 hg8 _
      have hbel8 : Below w.heap.size w w8 := hown6.below hbel6 (by omega) (Nat.le_refl _) hg8
      clear hg8 hown6
      rw [← hpt.out] at hown8
      have hpt2 := hpt.out
      rw [← hpt2]
      clear hpt2
      generalize hL8 : printB (hs.take (k + 1)) = L8 at hown8 ⊢
      have HL8 := hide hL8
      clear hL8
      go_wp2_with (at_builtin; refine stopAt ?_)
      go_roundw
      case rel => exact ⟨k + 1, by omega, by go_num, A8, c8, by rw [HL8.out], by rw [HL8.out]; exact hown8, hbel8⟩
      case measure => simp [intOf]; omega
    · obtain rfl : k = hs.length := by omega
      rw [List.take_length] at hown ⊢
      go_wp2
      go_ret
      exact ⟨A', c', rfl, hown, hbel⟩

theorem rowH : RowT Try.prog 23 26 (.agg #[.int .i64 0, .int .i64 0, .slice none 0 0]) 3 40 := ⟨Try.underlying23, by kernel_rfl, rfl, by omega⟩

/-- The first loop's state. -/
def RaI (w : World) (base p : List UInt8) (k last : Nat) (hs : List HkV) (A' : Option Addr) (c' : Nat) (wr : World) : Prop :=
  k ≤ p.length ∧ last = endK 0 hs ∧ Valid base.length 0 hs ∧ hs.length ≤ k ∧ blen hs ≤ k ∧ OwnR wr w.heap.size 26 3 A' hs.length c' (hcells (hs.map HkV.toRec)) ∧ Below w.heap.size w wr ∧
    (∀ h ∈ hs, Rd w h.A h.b) ∧ Hid (applyGo base (parse p.length p) 0 [] = applyGo base (parse (p.drop k).length (p.drop k)) last (fwd base 0 hs))

set_option maxHeartbeats 2000000 in
set_option maxRecDepth 100000 in
theorem refApply (A1 A2 : Option Addr) (n1 n2 c1 c2 : Nat) (most : Int) (base p : List UInt8) (w : World) (hn1 : n1 = base.length) (hn2 : n2 = p.length) (h1 : Rd w A1 base) (h2 : Rd w A2 p)
    (hc1 : base.length ≤ c1) (hc2 : p.length ≤ c2) (hc3 : c2 ≤ 9223372036854775807) (hbd : base.length + p.length ≤ 1099511627776) :
    Calls Try.prog 11 #[.slice A1 n1 c1, .slice A2 n2 c2, .int .i64 most] w fun e w' => ∃ A c, e = .returned (.tuple #[.slice A (applyRes base p most).1.length c, .int .i64 ((applyRes base p most).2 : Int)]) ∧
      Own w' w.heap.size 5 A c (applyRes base p most).1 ∧ Below w.heap.size w w' := by
  subst hn1 hn2
  go_enter Try.func11, Try.ntmps11
  go_wp2
  go_loopw [8, 9, 10] (fun l la i wr => ∃ (k last : Nat) (hs : List HkV) (A' : Option Addr) (c' : Nat), i = .int .i64 k ∧ la = .int .i64 last ∧ l = .slice A' hs.length c' ∧ RaI w base p k last hs A' c' wr)
    (fun _ _ i _ => p.length - (intOf i).toNat)
  case atStart => exact ⟨0, 0, [], none, 0, rfl, rfl, rfl, Nat.zero_le _, rfl, Nat.zero_le _, Nat.le_refl _, Nat.zero_le _, OwnR.nil _ _ _ _, Below.refl _ _, fun h hh => (by cases hh), hide rfl⟩
  case round =>
    obtain ⟨k, last, hs, A', c', rfl, rfl, rfl, hk, hlast, hval, hlen, hbl, hown, hbel, hrds, HG⟩ := hrel
    have Hlast := hide hlast
    have Hval := hide hval
    have hle := hval.end_
    rw [← hlast] at hle
    clear hlast hval
    have hnum : ∀ (W : World) (j : Int), Below w.heap.size w W → 0 ≤ j → j + 4 ≤ p.length → Calls Try.prog 18 #[.slice A2 p.length c2, .int .i64 j] W fun e w' => e = .returned (.int .i64 (num4 p j.toNat : Nat)) ∧ ∃ m, w' = W.drewN m :=
      fun W j hW hj0 hj => refNumber A2 _ c2 p j W rfl (h2.ext hW) hj0 hj (by omega)
    have HN := hide hnum
    clear hnum
    by_cases hlt : k < p.length
    · by_cases h12 : p.length - k < 12
      · have hlt' : (p.length : Int) - (k : Int) < 12 := by omega
        have hres : applyRes base p most = ([], 3) := by
          have e : parse (p.drop k).length (p.drop k) = [none] := by
            have h3 : (p.drop k).length = p.length - k := List.length_drop
            obtain ⟨m, hm⟩ : ∃ m, (p.drop k).length = m + 1 := ⟨p.length - k - 1, by omega⟩
            rw [hm]; simp only [parse]; rw [if_neg (by omega), if_pos (by omega)]
          unfold applyRes; rw [HG.out, e]; rfl
        have Hres := hide hres
        clear hres
        go_wp2
        go_ret2
        rw [Hres.out]
        exact ⟨none, 0, rfl, Own.nil _ _ _, hbel⟩
      · have hlt' : 12 ≤ (p.length : Int) - (k : Int) := by omega
        have n1 := num4_lt p k (by omega)
        have n2 := num4_lt p (k + 4) (by omega)
        have n3 := num4_lt p (k + 8) (by omega)
        have hpa := hide (parse_at p k (by omega))
        go_wp2_with (at_builtin; refine stopAt ?_)
        refine (HN.out _ _ hbel (by omega) (by omega)).mono ?_
        rintro e w' ⟨rfl, m1, rfl⟩
        rw [Int.toNat_natCast]
        go_wp2_with (at_builtin; refine stopAt ?_)
        refine (HN.out _ _ (belowN hbel _) (by omega) (by omega)).mono ?_
        rintro e w' ⟨rfl, m2, rfl⟩
        rw [show ((k : Int) + 4).toNat = k + 4 by omega]
        go_wp2_with (at_builtin; refine stopAt ?_)
        refine (HN.out _ _ (belowN hbel _) (by omega) (by omega)).mono ?_
        rintro e w' ⟨rfl, m3, rfl⟩
        rw [show ((k : Int) + 8).toNat = k + 8 by omega]
        generalize num4 p k = x1 at *
        generalize num4 p (k + 4) = x2 at *
        generalize num4 p (k + 8) = x3 at *
        by_cases hlong : p.length - k - 12 < x3
        · have hlongi : (p.length : Int) - (k : Int) - 12 < (x3 : Int) := by omega
          have hres : applyRes base p most = ([], 3) := by
            unfold applyRes; rw [HG.out, hpa.out, if_pos hlong]; rfl
          have Hres := hide hres
          clear hres
          go_wp2
          go_ret2
          rw [Hres.out]
          exact ⟨none, 0, rfl, Own.nil _ _ _, belowN hbel _⟩
        · have hlongi : (x3 : Int) ≤ (p.length : Int) - (k : Int) - 12 := by omega
          by_cases hbad : x2 < x1 ∨ base.length < x2 ∨ x1 < last
          · have hres : applyRes base p most = ([], 4) := by
              unfold applyRes; rw [HG.out, hpa.out, if_neg hlong]; simp only [applyGo]; rw [if_pos hbad]
            have Hres := hide hres
            clear hres
            go_wp2
            all_goals
              go_ret2
              rw [Hres.out]
              exact ⟨none, 0, rfl, Own.nil _ _ _, belowN hbel _⟩
          · have t1 : x1 ≤ x2 := by omega
            have t2 : x2 ≤ base.length := by omega
            have t3 : last ≤ x1 := by omega
            have hgn : Hid (applyGo base (parse p.length p) 0 [] = applyGo base (parse (p.drop (k + 12 + x3)).length (p.drop (k + 12 + x3))) x2 (fwd base 0 hs ++ (base.take x1).drop last ++ (p.take (k + 12 + x3)).drop (k + 12))) := hide (by
              rw [HG.out, hpa.out, if_neg hlong]; simp only [applyGo]; rw [if_neg hbad])
            clear hbad
            have i1 : (k : Int) + 12 + (x3 : Int) ≤ (c2 : Int) := by omega
            have hsz := hbel.size
            go_wp2_with (at_builtin; refine stopAt ?_)
            have hrx : Rd w (cutA A2 c2 (k + 12) 1) ((p.take (k + 12 + x3)).drop (k + 12)) := h2.cut (by omega) (by omega) hc2
            have hlx : ((p.take (k + 12 + x3)).drop (k + 12)).length = x3 := by rw [part_len _ _ _ (by omega)]; omega
            have hnew := OwnR.new (size := 3) (base := w.heap.size) (wr.drewN (m1 + m2 + m3)) 26 #[.int .i64 (x1 : Int), .int .i64 (x2 : Int), .slice (cutA A2 c2 (k + 12) 1) x3 (c2 - (k + 12))] 1 (by show w.heap.size ≤ wr.heap.size; exact hsz) rfl (by simp [maxLen])
            refine unstop (wpList_appR _ rfl _ _ rowH rfl rfl rfl ((hown.dN _).alloc _) hnew.rd rfl (by omega) (by simp [Value.oneCell']) (by omega) (by omega) (by simp; omega) ?_)
            intro A3 c3 w3 hown3 hg3 _
            have hbel3 := ((hown.dN (m1 + m2 + m3)).alloc (.cells #[.int .i64 (x1 : Int), .int .i64 (x2 : Int), .slice (cutA A2 c2 (k + 12) 1) x3 (c2 - (k + 12))] 26)).below ((belowN hbel (m1 + m2 + m3)).alloc (by exact hsz) _) (by simp; omega) (Nat.le_refl _) hg3
            have hnext : RaI w base p (k + 12 + x3) x2 (hs ++ [⟨false, x1, x2, cutA A2 c2 (k + 12) 1, c2 - (k + 12), (p.take (k + 12 + x3)).drop (k + 12)⟩]) A3 c3 w3 := by
              have hv := Hval.out
              have hl := Hlast.out
              refine ⟨by omega, by rw [endK_snoc], hv.snoc _ (by rw [← hl]; exact t3) t1 t2, by simp; omega, by rw [blen_snoc]; simp only [hlx]; omega, ?_, hbel3, ?_, ?_⟩
              · have : hcells ((hs ++ [(⟨false, x1, x2, cutA A2 c2 (k + 12) 1, c2 - (k + 12), (p.take (k + 12 + x3)).drop (k + 12)⟩ : HkV)]).map HkV.toRec) = hcells (hs.map HkV.toRec) ++ [.int .i64 (x1 : Int), .int .i64 (x2 : Int), .slice (cutA A2 c2 (k + 12) 1) x3 (c2 - (k + 12))] := by
                  simp [hcells, HkV.toRec, HRec.cells, hlx]
                rw [this, List.length_append]
                exact hown3
              · intro h hh
                rcases List.mem_append.1 hh with hh | hh
                · exact hrds h hh
                · simp at hh; subst hh; exact hrx
              · refine hide ?_
                rw [hgn.out, fwd_snoc, hl]
            clear hown3 hg3 hbel3 hnew hrx hlx hgn hpa
            have HNX := hide hnext
            clear hnext
            go_wp2
            go_roundw
            case rel => exact ⟨k + 12 + x3, x2, _, A3, c3, by go_num, rfl, by simp, HNX.out⟩
            case measure => simp [intOf]; omega
    · obtain rfl : k = p.length := by omega
      have hG : applyGo base (parse p.length p) 0 [] = .ok (back base hs) := by
        rw [HG.out, List.drop_length]
        show Except.ok _ = _
        rw [back_eq base hs 0 Hval.out, ← Hlast.out]; simp
      have HGG := hide hG
      clear hG HG HN hlt
      have hval := Hval.out
      have hall := hval.all
      have Hall := hide hall
      clear hall hval
      have hsz := hbel.size
      go_wp2_with (at_builtin; refine stopAt ?_)
      refine unstop (wpList_app _ rfl _ _ byt rfl rfl rfl (Own.new0 (base := w.heap.size) wr _ hsz) ((h1.ext hbel).alloc _) rfl rfl (by simp; omega) (by simp; omega) ?_)
      intro A3 c3 w3 hown3 hg3 _
      have hbel3 := (Own.new0 (base := w.heap.size) wr 5 hsz).below (hbel.alloc hsz _) (by simp; omega) (Nat.le_refl _) hg3
      have hownH : OwnR w3 w.heap.size 26 3 A' hs.length c' (hcells (hs.map HkV.toRec)) := (hown.alloc _).kept hg3 (fun g hg hA => by
        cases hg
        exact absurd (show wr.heap.size < wr.heap.size from (hown.lt _ hA).2) (by omega))
      rw [List.nil_append] at hown3 ⊢
      clear hown hg3
      have hsz3 := hbel3.size
      go_wp2_with (at_builtin; refine stopAt ?_)
      go_loopw [14, 15] (fun o i wr => ∃ (m : Nat) (Ao : Option Addr) (co : Nat), m ≤ hs.length ∧ i = .int .i64 ((m : Int) - 1) ∧ o = .slice Ao (back base (hs.drop m)).length co ∧ Own wr w.heap.size 5 Ao co (back base (hs.drop m)) ∧
          OwnR wr w.heap.size 26 3 A' hs.length c' (hcells (hs.map HkV.toRec)) ∧ Below w.heap.size w wr)
        (fun _ i _ => (intOf i + 1).toNat)
      case atStart => exact ⟨hs.length, A3, c3, Nat.le_refl _, rfl, by rw [List.drop_length]; rfl, by rw [List.drop_length]; exact hown3, hownH, hbel3⟩
      case round =>
        obtain ⟨m, Ao, co, hm, rfl, rfl, hoo, hoh, hbel4⟩ := hrel
        cases m with
        | zero =>
          have hlen2 := back_len_le base hs 0 Hall.out
          rw [List.drop_zero] at hoo hlen2 ⊢
          have hres : applyRes base p most = if most < ((back base hs).length : Int) then ([], 2) else (back base hs, 0) := by unfold applyRes; rw [HGG.out]
          have Hres := hide hres
          clear hres
          generalize back base hs = res at *
          by_cases hmo : most < (res.length : Int)
          · go_wp2
            go_ret2
            rw [Hres.out, if_pos hmo]
            exact ⟨none, 0, rfl, Own.nil _ _ _, hbel4⟩
          · have hmo' : (res.length : Int) ≤ most := by omega
            go_wp2
            go_ret2
            rw [Hres.out, if_neg (by omega)]
            exact ⟨Ao, co, rfl, hoo, hbel4⟩
        | succ m =>
          rw [show ((m + 1 : Nat) : Int) - 1 = (m : Int) by omega]
          have hmlt : m < hs.length := by omega
          have hv := Hval.out
          obtain ⟨v1, v2, v3⟩ := hv.at_ m hmlt
          have hbk := back_drop base hs m hmlt
          have htl := back_len base _ _ v3
          have hol := back_len_le base hs (m + 1) Hall.out
          have hbl2 := blen_get hs m hmlt
          have hrd : RdR wr A' (hcells (hs.map HkV.toRec)) := hoh.rd
          obtain ⟨hb, ho, rfl, hblt, hcc⟩ := hrd.at_ (by rw [hcells_len, List.length_map]; omega)
          have hml : m < (hs.map HkV.toRec).length := by rw [List.length_map]; exact hmlt
          have e0 := hcells_get (hs.map HkV.toRec) m 0 hml (by omega)
          have e1 := hcells_get (hs.map HkV.toRec) m 1 hml (by omega)
          have e2 := hcells_get (hs.map HkV.toRec) m 2 hml (by omega)
          simp only [List.getElem_map, HkV.toRec, HRec.cells, List.getElem?_cons_zero, List.getElem?_cons_succ, Nat.add_zero] at e0 e1 e2
          have g0 := hcc _ _ e0
          have g1 := hcc _ _ e1
          have g2 := hcc _ _ e2
          rw [← Nat.add_assoc] at g1 g2
          have hmem := List.getElem_mem hmlt
          have hrb := hrds _ hmem
          have TR := hide (show ∀ W, Below wr.heap.size wr W → ∀ j u, wr.cell? ⟨hb, j, none⟩ = some u → W.cell? ⟨hb, j, none⟩ = some u from fun W hW j u h => (hW.cell (p := ⟨hb, j, none⟩) hblt).trans h)
          clear e0 e1 e2 hcc hmem v3 hv hrd
          generalize hout : back base (hs.drop (m + 1)) = out at *
          generalize hs[m] = hk' at *
          have HBK := hide hbk
          clear hbk hout
          have hsz4 := hbel4.size
          have p0 : (m : Int) < (hs.length : Int) := by omega
          have p1 := hoo.cap
          have p2 : (hk'.fr : Int) ≤ (co : Int) := by omega
          have p3 : (hk'.tt : Int) ≤ (out.length : Int) := by omega
          go_wp2_with (at_builtin; refine stopAt ?_)
          have hro1 : Rd wr Ao (out.take hk'.fr) := by
            have := hoo.rd.cut (i := 0) (j := hk'.fr) (cap := co) (Nat.zero_le _) (by omega) p1
            rwa [cutA_zero, List.drop_zero] at this
          have hl1 : (out.take hk'.fr).length = hk'.fr := by rw [List.length_take]; omega
          refine unstop (wpList_app _ rfl _ _ byt rfl rfl rfl (Own.new0 (base := wr.heap.size) wr _ (Nat.le_refl _)) (hro1.alloc _) rfl (by rw [hl1]) (by rw [hl1]; simp; omega) (by simp) ?_)
          intro A5 c5 w5 o5 hg5 _
          have B5 := (Own.new0 (base := wr.heap.size) wr 5 (Nat.le_refl _)).below ((Below.refl _ wr).alloc (Nat.le_refl _) _) (by simp) (Nat.le_refl _) hg5
          rw [List.nil_append] at o5 ⊢
          have s5 := B5.size
          generalize hL5 : out.take hk'.fr = L5 at o5 hl1 ⊢
          have HL5 := hide hL5
          clear hL5 hg5 hro1
          have g2' := TR.out w5 B5 _ _ g2
          go_wp2_with (at_builtin; refine stopAt ?_)
          refine unstop (wpList_app _ rfl _ _ byt rfl rfl rfl o5 (hrb.ext (hbel4.trans (B5.mono hsz4))) hl1.symm rfl (by omega) (by omega) ?_)
          intro A6 c6 w6 o6 hg6 _
          have B6 := o5.below B5 s5 (Nat.le_refl _) hg6
          have s6 := B6.size
          have hl6 : (L5 ++ hk'.b).length = hk'.fr + hk'.b.length := by rw [List.length_append, hl1]
          generalize hL6 : L5 ++ hk'.b = L6 at o6 hl6 ⊢
          have HL6 := hide hL6
          have Hl6 := hide hl6
          have hl6' : L6.length ≤ hk'.fr + hk'.b.length := by omega
          clear hL6 hg6 o5 hl6
          have g1' := TR.out w6 B6 _ _ g1
          go_wp2_with (at_builtin; refine stopAt ?_)
          have hro2 : Rd w6 (cutA Ao co hk'.tt 1) (out.drop hk'.tt) := by
            have := (hoo.rd.ext B6).cut (i := hk'.tt) (j := out.length) (cap := co) (by omega) (Nat.le_refl _) p1
            rwa [List.take_length] at this
          refine unstop (wpList_app _ rfl _ _ byt rfl rfl rfl o6 hro2 rfl (by rw [List.length_drop]) (by rw [List.length_drop]; omega) (by omega) ?_)
          intro A7 c7 w7 o7 hg7 _
          have B7 := o6.below B6 s6 (Nat.le_refl _) hg7
          have e7 : L6 ++ out.drop hk'.tt = back base (hs.drop m) := by rw [HBK.out, ← HL6.out, ← HL5.out]; rfl
          rw [e7] at o7 ⊢
          clear e7
          generalize hL7 : back base (hs.drop m) = L7 at o7 ⊢
          have HL7 := hide hL7
          clear hL7 hg7 o6
          go_wp2
          go_roundw
          case rel => exact ⟨m, A7, c7, by omega, rfl, by rw [HL7.out], by rw [HL7.out]; exact o7.mono hsz4, hoh.ext B7, hbel4.trans (B7.mono hsz4)⟩
          case measure => simp [intOf]
end Go.Proofs.Ytjfmendfhpgopaa
