/- 'PatchEnds' returns true and leaves what there was. -/
import Derived.Test.YtjfmendfhpgopaaApplies15
import Derived.Test.YtjfmendfhpgopaaLaw15
import Derived.Test.YtjfmendfhpgopaaSep
namespace Go.Proofs.Ytjfmendfhpgopaa
set_option linter.all false
open Go.RowKit

/-- Hunks that lie F further on. -/
def shf (F : Nat) (hs : List HRec) : List HRec := hs.map fun h => ⟨h.f + F, h.t + F, h.A, h.c, h.b⟩
def Mid (h : HRec) : Prop := 0 ≤ h.f ∧ h.f ≤ 5000 ∧ 0 ≤ h.t ∧ h.t ≤ 5000 ∧ h.b.length ≤ 100

theorem bodyLen_mid (ms : List HRec) (hm : ∀ h ∈ ms, Mid h) : bodyLen ms ≤ 100 * ms.length := by
  induction ms with
  | nil => exact Nat.le_refl _
  | cons y r ih =>
    have h1 := ih (fun z hz => hm z (by simp [hz]))
    obtain ⟨_, _, _, _, h2⟩ := hm y (by simp)
    simp only [bodyLen, List.map_cons, List.sum_cons, List.length_cons] at h1 ⊢
    omega
theorem shf_snoc (F : Nat) (l : List HRec) (x : HRec) : shf F (l ++ [x]) = shf F l ++ [⟨x.f + F, x.t + F, x.A, x.c, x.b⟩] := by simp [shf]
theorem shf_len (F : Nat) (l : List HRec) : (shf F l).length = l.length := by simp [shf]
theorem bodyLen_shf (F : Nat) (l : List HRec) : bodyLen (shf F l) = bodyLen l := by
  unfold bodyLen shf; rw [List.map_map]; rfl
theorem hcells_snoc (l : List HRec) (x : HRec) (y : Nat) (hy : x.b.length = y) : hcells (l ++ [x]) = hcells l ++ [.int .i64 x.f, .int .i64 x.t, .slice x.A y x.c] := by
  subst hy; simp [hcells, HRec.cells]

theorem ends_law (F base B : List UInt8) (ms : List HRec) (hF : F.length ≤ 100) (hB : B.length ≤ 100) (hb : base.length ≤ 1000) (hm : ∀ h ∈ ms, Mid h) (hl : ms.length ≤ 20)
    (h : (applyRes base (printB ms) 1099511627776).2 = 0) :
    applyRes (F ++ (base ++ B)) (printB (shf F.length ms)) 1099511627776 = (F ++ ((applyRes base (printB ms) 1099511627776).1 ++ B), 0) := by
  obtain ⟨x, hx, e, _⟩ := applyRes_ok h
  have hlen := applyRes_len (base := base) (p := printB ms) (most := 1099511627776)
  rw [e] at hlen ⊢
  rw [parse_print ms (fun h hh => by obtain ⟨a, b, c, d, e⟩ := hm h hh; exact ⟨a, by omega, c, by omega, by omega⟩)] at hx
  have hbl := bodyLen_mid ms hm
  rw [printB_len] at hlen
  refine applyRes_of ?_ (by simp only [List.length_append]; omega)
  rw [parse_print (shf F.length ms) (fun h hh => by
    obtain ⟨y, hy, rfl⟩ := List.mem_map.1 hh
    obtain ⟨a, b, c, d, e⟩ := hm y hy
    exact ⟨by simp only; omega, by simp only; omega, by simp only; omega, by simp only; omega, by simp only; omega⟩)]
  have g := applyGo_shift0 F base B (ms.map hkOf) x hx
  rw [List.map_map] at g
  have e2 : ((shf F.length ms).map hkOf).map some = ms.map ((fun h : Hk => some (⟨h.fr + F.length, h.tt + F.length, h.b⟩ : Hk)) ∘ hkOf) := by
    unfold shf
    rw [List.map_map, List.map_map]
    refine List.map_congr_left fun y hy => ?_
    obtain ⟨a, _, c, _, _⟩ := hm y hy
    simp only [Function.comp, hkOf, Option.some.injEq, Hk.mk.injEq, and_true]
    constructor <;> omega
  rw [e2]
  exact g

set_option maxHeartbeats 1000000 in
set_option maxRecDepth 100000 in
theorem patchEnds_walk {A0 A1 A2 A3 : Option Addr} {n0 n1 n2 n3 c0 c1 c2 c3 : Nat} {b0 f0 t0 : List UInt8} {hs : List HRec} (w : World) (q0 : Arg w A0 n0 c0 b0) (q1 : Arg w A1 n1 c1 f0) (q2 : Arg w A2 n2 c2 t0) (q3 : ArgH w A3 n3 c3 hs) :
    Calls Try.prog 5 #[.slice A0 n0 c0, .slice A1 n1 c1, .slice A2 n2 c2, .slice A3 n3 c3] w fun e w' => e = .returned (.bool true) ∧ Below w.heap.size w w' := by
  have k0 := q0.take 1000
  have k1 := q1.take 100
  have k2 := q2.take 100
  have hl0 : (b0.take 1000).length ≤ 1000 := by rw [List.length_take]; omega
  have hl1 : (f0.take 100).length ≤ 100 := by rw [List.length_take]; omega
  have hl2 : (t0.take 100).length ≤ 100 := by rw [List.length_take]; omega
  have hf0 : ∀ W : World, Calls Try.prog 8 #[.slice A0 n0 c0] W fun e w' => e = .returned (.slice A0 (b0.take 1000).length c0) ∧ W = w' := fun W => by
    have := few_calls A0 n0 c0 W (by have := q0.len; have := q0.cap; omega) q0.max
    rwa [k0.len] at this
  have m1 : (if (100 : Int) < (n1 : Int) then (100 : Int) else (n1 : Int)) = ((f0.take 100).length : Int) := by
    have := q1.len; rw [List.length_take]; split <;> omega
  have m2 : (if (100 : Int) < (n2 : Int) then (100 : Int) else (n2 : Int)) = ((t0.take 100).length : Int) := by
    have := q2.len; rw [List.length_take]; split <;> omega
  have i1 : ((f0.take 100).length : Int) ≤ (c1 : Int) := by have := k1.cap; omega
  have i2 : ((t0.take 100).length : Int) ≤ (c2 : Int) := by have := k2.cap; omega
  have hn3 := q3.len
  subst hn3
  generalize b0.take 1000 = bs at *
  generalize f0.take 100 = fr at *
  generalize t0.take 100 = tl at *
  have F0 := hide hf0
  clear hf0 q0 q1 q2
  have hmax := q3.max
  have hcap3 := q3.cap
  go_enter Try.func5, Try.ntmps5
  go_wp2_with (at_builtin; refine stopAt ?_)
  apply wp_meet
  · go_region_held3 (fun _ => True) (trivial) (first | (go_at_call 8; (with_reducible refine (F0.out _).mono ?_); rintro e w' ⟨rfl, rfl⟩))
    all_goals exact ⟨rfl, rfl, rfl⟩
  generalize hW0 : w.drew = W0
  have hB0 : Below w.heap.size w W0 := by rw [← hW0]; exact (Below.refl _ w).drew
  clear hW0
  go_wp2_with (at_builtin; refine stopAt ?_)
  go_loopw [9, 10, 11] (fun m n i wr => ∃ k : Nat, k ≤ hs.length ∧ k ≤ 20 ∧ i = .int .i64 k ∧ ∃ Am cm An cn, m = .slice Am k cm ∧ n = .slice An k cn ∧ (∀ h ∈ trs k hs, Mid h) ∧
      Sep w.heap.size w wr [.rowR 26 3 Am k cm (hcells (trs k hs)), .rowR 26 3 An k cn (hcells (shf fr.length (trs k hs)))])
    (fun _ _ i _ => hs.length - (intOf i).toNat)
  case atStart => exact ⟨0, Nat.zero_le _, Nat.zero_le _, rfl, none, 0, none, 0, rfl, rfl, fun h hh => (by cases hh), ((Sep.of hB0 hB0.size).nilR _ _).nilR _ _⟩
  case round =>
    obtain ⟨k, hk, hk20, rfl, Am, cm, An, cn, rfl, rfl, hmid, hS⟩ := hrel
    have hbel := hS.below
    have hsz := hbel.size
    by_cases hgo : k < hs.length ∧ k < 20
    · obtain ⟨hlt, hlt20⟩ := hgo
      have hlt20' : (k : Int) < 20 := by omega
      have hrw := q3.rd.ext hbel
      obtain ⟨b, o, rfl, hblt, hc⟩ := hrw.at_ (by omega)
      obtain ⟨g0, g1, g2⟩ := hc k hlt
      have htr := hide (trs_succ k hs hlt)
      obtain ⟨hcp1, hcp2⟩ := q3.caps hs[k] (List.getElem_mem hlt)
      clear hc hrw
      generalize hs[k] = x at *
      obtain ⟨y, hy⟩ : ∃ y, (x.b.take 100).length = y := ⟨_, rfl⟩
      have hmin : (if (100 : Int) < (x.b.length : Int) then (100 : Int) else (x.b.length : Int)) = (y : Int) := by
        rw [List.length_take] at hy; split <;> omega
      have hyc : (y : Int) ≤ (x.c : Int) := by rw [List.length_take] at hy; omega
      have Hy := hide hy
      have Hmid := hide hmid
      clear hy hmid
      have hbb : b < w.heap.size := by
        obtain ⟨b2, o2, e2, h2, _⟩ := q3.rd.at_ (by omega)
        cases e2; exact h2
      have hcs : ∀ W : World, (∀ k : Nat, k < w.heap.size → W.heap[k]? = wr.heap[k]?) → ∀ j u, wr.cell? ⟨b, j, none⟩ = some u → W.cell? ⟨b, j, none⟩ = some u := fun W hW j u h => by
        rw [World.cell?_of_block (w := wr) (w' := W) (hW b hbb)]; exact h
      have Hcs := hide hcs
      clear hcs
      have ga : ∀ (ob : Obj) j u, wr.cell? ⟨b, j, none⟩ = some u → (wr.alloc ob).cell? ⟨b, j, none⟩ = some u := fun ob => Hcs.out _ (fun k hk => Below.heap_alloc wr ob k (by omega))
      have ga0 := fun ob => ga ob _ _ g0
      have ga1 := fun ob => ga ob _ _ g1
      have ga2 := fun ob => ga ob _ _ g2
      have Ga := hide ga
      clear ga
      go_wp2_with (at_builtin; refine stopAt ?_)
      apply wp_meet
      · go_region_held3 (fun W' => W'.cell? ⟨b, o + k * 3, none⟩ = some (.int .i64 x.f) ∧ W'.cell? ⟨b, o + k * 3 + 1, none⟩ = some (.int .i64 x.t) ∧ W'.cell? ⟨b, o + k * 3 + 2, none⟩ = some (.slice x.A x.b.length x.c)) (first | exact ⟨g0, g1, g2⟩ | exact ⟨ga0 _, ga1 _, ga2 _⟩) (fail)
        all_goals exact ⟨rfl, rfl, rfl⟩
      have hS := (hS.allocC #[.int .i64 x.f, .int .i64 x.t, .slice x.A y x.c] 26).drew
      simp only [List.cons_append, List.nil_append, List.set_cons_zero, List.set_cons_succ, List.map_cons, List.map_nil, List.getD_cons_zero, List.getD_cons_succ, Array.toList] at hS
      clear ga0 ga1 ga2 Ga g0 g1 g2 Hcs hbel hmin hsz
      generalize (wr.alloc (.cells #[.int .i64 x.f, .int .i64 x.t, .slice x.A y x.c] 26)).drew = W1 at hS ⊢
      generalize wr.heap.size = g0 at hS ⊢
      have e0 := hS.cell 2 0 rfl rfl
      have e1 := hS.cell 2 1 rfl rfl
      have e2 := hS.cell 2 2 rfl rfl
      have hg0 := hS.lt 2 rfl
      rcases Int.lt_or_le x.f 0 with u0 | u0
      · skip
        go_wp2_with (at_builtin; refine stopAt ?_)
        refine (known_calls _).mono ?_
        rintro e w7 ⟨rfl, b7⟩
        have hb7 := (hS.ext b7).below
        go_wp2
        go_ret
        exact ⟨rfl, hb7⟩
      rcases Int.lt_or_le x.t 0 with u1 | u1
      · skip
        go_wp2_with (at_builtin; refine stopAt ?_)
        refine (known_calls _).mono ?_
        rintro e w7 ⟨rfl, b7⟩
        have hb7 := (hS.ext b7).below
        go_wp2
        go_ret
        exact ⟨rfl, hb7⟩
      rcases Int.lt_or_le 5000 x.f with u2 | u2
      · skip
        go_wp2_with (at_builtin; refine stopAt ?_)
        refine (known_calls _).mono ?_
        rintro e w7 ⟨rfl, b7⟩
        have hb7 := (hS.ext b7).below
        go_wp2
        go_ret
        exact ⟨rfl, hb7⟩
      rcases Int.lt_or_le 5000 x.t with u3 | u3
      · skip
        go_wp2_with (at_builtin; refine stopAt ?_)
        refine (known_calls _).mono ?_
        rintro e w7 ⟨rfl, b7⟩
        have hb7 := (hS.ext b7).below
        go_wp2
        go_ret
        exact ⟨rfl, hb7⟩
      have hwf : IntKind.i64.wrap (x.f + (fr.length : Int)) = x.f + (fr.length : Int) := IntWalk.i64_in _ (by omega)
      have hwt : IntKind.i64.wrap (x.t + (fr.length : Int)) = x.t + (fr.length : Int) := IntWalk.i64_in _ (by omega)
      go_wp2_with (at_builtin; refine stopAt ?_)
      have hS1 := hS.allocR #[.int .i64 x.f, .int .i64 x.t, .slice x.A y x.c] 26 3 1 rfl (by simp [maxLen])
      simp only [List.cons_append, List.nil_append, List.set_cons_zero, List.set_cons_succ, List.map_cons, List.map_nil, List.getD_cons_zero, List.getD_cons_succ, Array.toList] at hS1
      refine unstop (wpList_appRS hS1 0 rowH rfl rfl rfl (hS1.rdR 3 rfl) rfl rfl rfl (by omega) (by simp [Value.oneCell']) (by omega) (by omega) ?_)
      intro A5 c5 w3 hS
      have hS := hS.pick [0, 1, 2] (by decide); simp only [List.cons_append, List.nil_append, List.set_cons_zero, List.set_cons_succ, List.map_cons, List.map_nil, List.getD_cons_zero, List.getD_cons_succ] at hS
      clear hS1 e0 e1 e2
      have e0 := hS.cell 2 0 rfl rfl
      have e1 := hS.cell 2 1 rfl rfl
      have e2 := hS.cell 2 2 rfl rfl
      have hg0 := hS.lt 2 rfl
      go_wp2_with (at_builtin; refine stopAt ?_)
      have hS1 := hS.allocR #[.int .i64 (x.f + (fr.length : Int)), .int .i64 (x.t + (fr.length : Int)), .slice x.A y x.c] 26 3 1 rfl (by simp [maxLen])
      simp only [List.cons_append, List.nil_append, List.set_cons_zero, List.set_cons_succ, List.map_cons, List.map_nil, List.getD_cons_zero, List.getD_cons_succ, Array.toList] at hS1
      refine unstop (wpList_appRS hS1 1 rowH rfl rfl rfl (hS1.rdR 3 rfl) rfl rfl rfl (by omega) (by simp [Value.oneCell']) (by omega) (by omega) ?_)
      intro A6 c6 w4 hS
      have hS := hS.pick [0, 1] (by decide); simp only [List.cons_append, List.nil_append, List.set_cons_zero, List.set_cons_succ, List.map_cons, List.map_nil, List.getD_cons_zero, List.getD_cons_succ] at hS
      clear hS1 e0 e1 e2
      go_wp2
      have hsn : (⟨x.f, x.t, x.A, x.c, x.b.take 100⟩ : HRec) = trH x := rfl
      go_roundw
      case rel =>
        have ht : trs (k + 1) hs = trs k hs ++ [trH x] := htr.out
        refine ⟨k + 1, by omega, by omega, by go_num, A5, c5, A6, c6, rfl, rfl, ?_, ?_⟩
        · rw [ht]
          intro h hh
          rcases List.mem_append.1 hh with h1 | h1
          · exact Hmid.out h h1
          · rw [List.mem_singleton.1 h1]
            exact ⟨u0, u2, u1, u3, by show (x.b.take 100).length ≤ 100; rw [List.length_take]; omega⟩
        · rw [ht, shf_snoc, hcells_snoc _ (trH x) y Hy.out, hcells_snoc _ _ y Hy.out]
          exact hS
      case measure => simp [intOf]; omega
    · have htl := trs_len k hs hk
      have hbl := bodyLen_trs k hs
      have hrm : RdH wr Am (trs k hs) := ⟨hS.rdR 0 rfl, trs_rd q3.rd hbel k⟩
      have HR : Hid (∀ W, Below w.heap.size w W → ∀ h ∈ shf fr.length (trs k hs), Rd W h.A h.b) := hide (fun W hW h hh => by
        obtain ⟨y, hy, rfl⟩ := List.mem_map.1 hh
        exact trs_rd q3.rd hW k y hy)
      have hlaw := ends_law fr bs tl (trs k hs) hl1 hl2 hl0 hmid (by omega)
      generalize trs k hs = ms at *
      have hprl : (printB ms).length ≤ 3000 := by rw [printB_len]; omega
      have hprl2 : (printB (shf fr.length ms)).length ≤ 3000 := by rw [printB_len, shf_len, bodyLen_shf]; omega
      have hbl2 : bodyLen ms ≤ 2000 := by omega
      have Htl := hide htl
      clear htl hbl
      have Hlaw := hide hlaw
      clear hlaw
      have hwalk : ∀ P Q : Prop, (¬ (k < hs.length ∧ k < 20)) → (k = hs.length → P) → (k < hs.length → k = 20 → P) → P := fun P _ h h1 h2 => by
        rcases Nat.lt_or_ge k hs.length with h3 | h3
        · exact h2 h3 (by omega)
        · exact h1 (by omega)
      refine hwalk _ True hgo (fun he => ?_) (fun hlt he => ?_)
      · have hge : (hs.length : Int) ≤ (k : Int) := by omega
        clear he hgo hwalk
        go_wp2_with (at_builtin; refine stopAt ?_)
        refine (refPrint Am k cm ms _ Htl.out.symm hrm (by have := Htl.out; omega) (by omega)).mono ?_
        rintro e w1 ⟨Ap, cp, rfl, o1, b1⟩
        replace hS := hS.call b1 (x := .row 5 Ap cp (printB ms)) o1
        simp only [List.cons_append, List.nil_append, List.set_cons_zero, List.set_cons_succ, List.map_cons, List.map_nil, List.getD_cons_zero, List.getD_cons_succ, Array.toList] at hS
        generalize printB ms = pm at *
        go_wp2_with (at_builtin; refine stopAt ?_)
        refine (patchApply A0 Ap _ _ c0 cp 1099511627776 bs pm _ rfl rfl (k0.rd.ext hS.below) (hS.rd 2 rfl) k0.cap (hS.own 2 rfl).cap (hS.own 2 rfl).cmax (by omega) (fun k hk => ((hS.own 2 rfl).lt k hk).2)).mono ?_
        rintro e w2 ⟨Ax, cx, rfl, o2, b2⟩
        replace hS := hS.call b2 (x := .row 5 Ax cx (applyRes bs pm 1099511627776).1) o2
        have hrl : (applyRes bs pm 1099511627776).1.length ≤ 4000 := Nat.le_trans applyRes_len (by omega)
        simp only [List.cons_append, List.nil_append, List.set_cons_zero, List.set_cons_succ, List.map_cons, List.map_nil, List.getD_cons_zero, List.getD_cons_succ, Array.toList] at hS
        generalize applyRes bs pm 1099511627776 = R at *
        go_wp2_with (at_builtin; refine stopAt ?_)
        replace hS := hS.allocB 5
        simp only [List.cons_append, List.nil_append, List.set_cons_zero, List.set_cons_succ, List.map_cons, List.map_nil, List.getD_cons_zero, List.getD_cons_succ, Array.toList] at hS
        refine unstop (wpList_appS hS 4 byt rfl rfl rfl (k1.rd.ext hS.below) rfl rfl rfl rfl (by simp; omega) ?_)
        clear hS
        intro A5 c5 w5 hS
        simp only [List.cons_append, List.nil_append, List.set_cons_zero, List.set_cons_succ, List.map_cons, List.map_nil, List.getD_cons_zero, List.getD_cons_succ, Array.toList] at hS
        go_wp2_with (at_builtin; refine stopAt ?_)
        refine unstop (wpList_appS hS 4 byt rfl rfl rfl (k0.rd.ext hS.below) rfl rfl (by simp) rfl (by omega) ?_)
        clear hS
        intro A6 c6 w6 hS
        simp only [List.cons_append, List.nil_append, List.set_cons_zero, List.set_cons_succ, List.map_cons, List.map_nil, List.getD_cons_zero, List.getD_cons_succ, Array.toList] at hS
        go_wp2_with (at_builtin; refine stopAt ?_)
        refine unstop (wpList_appS hS 4 byt rfl rfl rfl (k2.rd.ext hS.below) rfl rfl (by simp) rfl (by simp; omega) ?_)
        clear hS
        intro A7 c7 w7 hS
        simp only [List.cons_append, List.nil_append, List.set_cons_zero, List.set_cons_succ, List.map_cons, List.map_nil, List.getD_cons_zero, List.getD_cons_succ, Array.toList] at hS
        have hal : (fr ++ bs ++ tl).length ≤ 1200 := by simp only [List.length_append]; omega
        generalize hall : fr ++ bs ++ tl = all at *
        have Hall := hide hall
        clear hall
        go_wp2_with (at_builtin; refine stopAt ?_)
        refine (refPrint An k cn (shf fr.length ms) _ (by rw [shf_len, Htl.out]) ⟨hS.rdR 1 rfl, HR.out _ hS.below⟩ (by have := Htl.out; rw [shf_len]; omega) (by rw [bodyLen_shf]; omega)).mono ?_
        rintro e w8 ⟨Aq, cq, rfl, o8, b8⟩
        replace hS := hS.call b8 (x := .row 5 Aq cq (printB (shf fr.length ms))) o8
        simp only [List.cons_append, List.nil_append, List.set_cons_zero, List.set_cons_succ, List.map_cons, List.map_nil, List.getD_cons_zero, List.getD_cons_succ, Array.toList] at hS
        generalize printB (shf fr.length ms) = pn at *
        go_wp2_with (at_builtin; refine stopAt ?_)
        refine (patchApply A7 Aq _ _ c7 cq 1099511627776 all pn _ rfl rfl (hS.rd 4 rfl) (hS.rd 5 rfl) (hS.own 4 rfl).cap (hS.own 5 rfl).cap (hS.own 5 rfl).cmax (by omega) (fun k hk => ((hS.own 5 rfl).lt k hk).2)).mono ?_
        rintro e w9 ⟨Ay, cy, rfl, o9, b9⟩
        replace hS := hS.call b9 (x := .row 5 Ay cy (applyRes all pn 1099511627776).1) o9
        simp only [List.cons_append, List.nil_append, List.set_cons_zero, List.set_cons_succ, List.map_cons, List.map_nil, List.getD_cons_zero, List.getD_cons_succ, Array.toList] at hS
        generalize hR2 : applyRes all pn 1099511627776 = R2 at *
        have HR2 := hide hR2
        clear hR2
        rcases Nat.eq_zero_or_pos R.2 with z | z
        · obtain ⟨X, ze⟩ := R
          simp only at z hrl
          subst z
          have h2 := Hlaw.out rfl
          rw [← List.append_assoc, Hall.out, HR2.out] at h2
          simp only at h2
          obtain ⟨Z, hZ⟩ : ∃ Z, Z = fr ++ (X ++ tl) := ⟨_, rfl⟩
          obtain ⟨FX, hFX⟩ : ∃ FX, FX = fr ++ X := ⟨_, rfl⟩
          rw [← hZ] at h2
          have hFXl : FX.length ≤ 4100 := by rw [hFX, List.length_append]; omega
          have hcat1 : (⟨fr.toArray⟩ : ByteArray) ++ (⟨X.toArray⟩ : ByteArray) = ⟨FX.toArray⟩ := by rw [bytes_cat, hFX]
          have hcat2 : (⟨FX.toArray⟩ : ByteArray) ++ (⟨tl.toArray⟩ : ByteArray) = ⟨Z.toArray⟩ := by rw [bytes_cat, hZ, hFX, List.append_assoc]
          clear Hlaw HR2
          subst h2
          simp only at hS
          clear hZ hFX
          go_wp2_with (at_builtin; refine stopAt ?_)
          refine (known_calls _).mono ?_
          rintro e w10 ⟨rfl, b10⟩
          replace hS := hS.ext b10
          have st0 := run_str (P := Try.prog) w10 Try.underlying22 Try.underlying5 (hS.rd 6 rfl) (c := cy) rfl Try.underlying9
          have st1 := run_str (P := Try.prog) w10 Try.underlying22 Try.underlying5 (k1.rd.ext hS.below) (c := c1) rfl Try.underlying9
          have st2 := run_str (P := Try.prog) w10 Try.underlying22 Try.underlying5 (hS.rd 3 rfl) (c := cx) rfl Try.underlying9
          have st3 := run_str (P := Try.prog) w10 Try.underlying22 Try.underlying5 (k2.rd.ext hS.below) (c := c2) rfl Try.underlying9
          have hbel := hS.below
          clear hS
          go_wp2
          go_ret
          exact ⟨rfl, hbel⟩
        · have hne : ((R.2 : Int) != 0) = true := by rw [bne_iff_ne]; omega
          go_wp2_with (at_builtin; refine stopAt ?_)
          refine (known_calls _).mono ?_
          rintro e w7 ⟨rfl, b7⟩
          have hb7 := (hS.ext b7).below
          go_wp2
          go_ret
          exact ⟨rfl, hb7⟩
      · have hge : (20 : Int) ≤ (k : Int) := by omega
        have hlti : (k : Int) < (hs.length : Int) := by omega
        clear he hgo hwalk
        go_wp2_with (at_builtin; refine stopAt ?_)
        refine (refPrint Am k cm ms _ Htl.out.symm hrm (by have := Htl.out; omega) (by omega)).mono ?_
        rintro e w1 ⟨Ap, cp, rfl, o1, b1⟩
        replace hS := hS.call b1 (x := .row 5 Ap cp (printB ms)) o1
        simp only [List.cons_append, List.nil_append, List.set_cons_zero, List.set_cons_succ, List.map_cons, List.map_nil, List.getD_cons_zero, List.getD_cons_succ, Array.toList] at hS
        generalize printB ms = pm at *
        go_wp2_with (at_builtin; refine stopAt ?_)
        refine (patchApply A0 Ap _ _ c0 cp 1099511627776 bs pm _ rfl rfl (k0.rd.ext hS.below) (hS.rd 2 rfl) k0.cap (hS.own 2 rfl).cap (hS.own 2 rfl).cmax (by omega) (fun k hk => ((hS.own 2 rfl).lt k hk).2)).mono ?_
        rintro e w2 ⟨Ax, cx, rfl, o2, b2⟩
        replace hS := hS.call b2 (x := .row 5 Ax cx (applyRes bs pm 1099511627776).1) o2
        have hrl : (applyRes bs pm 1099511627776).1.length ≤ 4000 := Nat.le_trans applyRes_len (by omega)
        simp only [List.cons_append, List.nil_append, List.set_cons_zero, List.set_cons_succ, List.map_cons, List.map_nil, List.getD_cons_zero, List.getD_cons_succ, Array.toList] at hS
        generalize applyRes bs pm 1099511627776 = R at *
        go_wp2_with (at_builtin; refine stopAt ?_)
        replace hS := hS.allocB 5
        simp only [List.cons_append, List.nil_append, List.set_cons_zero, List.set_cons_succ, List.map_cons, List.map_nil, List.getD_cons_zero, List.getD_cons_succ, Array.toList] at hS
        refine unstop (wpList_appS hS 4 byt rfl rfl rfl (k1.rd.ext hS.below) rfl rfl rfl rfl (by simp; omega) ?_)
        clear hS
        intro A5 c5 w5 hS
        simp only [List.cons_append, List.nil_append, List.set_cons_zero, List.set_cons_succ, List.map_cons, List.map_nil, List.getD_cons_zero, List.getD_cons_succ, Array.toList] at hS
        go_wp2_with (at_builtin; refine stopAt ?_)
        refine unstop (wpList_appS hS 4 byt rfl rfl rfl (k0.rd.ext hS.below) rfl rfl (by simp) rfl (by omega) ?_)
        clear hS
        intro A6 c6 w6 hS
        simp only [List.cons_append, List.nil_append, List.set_cons_zero, List.set_cons_succ, List.map_cons, List.map_nil, List.getD_cons_zero, List.getD_cons_succ, Array.toList] at hS
        go_wp2_with (at_builtin; refine stopAt ?_)
        refine unstop (wpList_appS hS 4 byt rfl rfl rfl (k2.rd.ext hS.below) rfl rfl (by simp) rfl (by simp; omega) ?_)
        clear hS
        intro A7 c7 w7 hS
        simp only [List.cons_append, List.nil_append, List.set_cons_zero, List.set_cons_succ, List.map_cons, List.map_nil, List.getD_cons_zero, List.getD_cons_succ, Array.toList] at hS
        have hal : (fr ++ bs ++ tl).length ≤ 1200 := by simp only [List.length_append]; omega
        generalize hall : fr ++ bs ++ tl = all at *
        have Hall := hide hall
        clear hall
        go_wp2_with (at_builtin; refine stopAt ?_)
        refine (refPrint An k cn (shf fr.length ms) _ (by rw [shf_len, Htl.out]) ⟨hS.rdR 1 rfl, HR.out _ hS.below⟩ (by have := Htl.out; rw [shf_len]; omega) (by rw [bodyLen_shf]; omega)).mono ?_
        rintro e w8 ⟨Aq, cq, rfl, o8, b8⟩
        replace hS := hS.call b8 (x := .row 5 Aq cq (printB (shf fr.length ms))) o8
        simp only [List.cons_append, List.nil_append, List.set_cons_zero, List.set_cons_succ, List.map_cons, List.map_nil, List.getD_cons_zero, List.getD_cons_succ, Array.toList] at hS
        generalize printB (shf fr.length ms) = pn at *
        go_wp2_with (at_builtin; refine stopAt ?_)
        refine (patchApply A7 Aq _ _ c7 cq 1099511627776 all pn _ rfl rfl (hS.rd 4 rfl) (hS.rd 5 rfl) (hS.own 4 rfl).cap (hS.own 5 rfl).cap (hS.own 5 rfl).cmax (by omega) (fun k hk => ((hS.own 5 rfl).lt k hk).2)).mono ?_
        rintro e w9 ⟨Ay, cy, rfl, o9, b9⟩
        replace hS := hS.call b9 (x := .row 5 Ay cy (applyRes all pn 1099511627776).1) o9
        simp only [List.cons_append, List.nil_append, List.set_cons_zero, List.set_cons_succ, List.map_cons, List.map_nil, List.getD_cons_zero, List.getD_cons_succ, Array.toList] at hS
        generalize hR2 : applyRes all pn 1099511627776 = R2 at *
        have HR2 := hide hR2
        clear hR2
        rcases Nat.eq_zero_or_pos R.2 with z | z
        · obtain ⟨X, ze⟩ := R
          simp only at z hrl
          subst z
          have h2 := Hlaw.out rfl
          rw [← List.append_assoc, Hall.out, HR2.out] at h2
          simp only at h2
          obtain ⟨Z, hZ⟩ : ∃ Z, Z = fr ++ (X ++ tl) := ⟨_, rfl⟩
          obtain ⟨FX, hFX⟩ : ∃ FX, FX = fr ++ X := ⟨_, rfl⟩
          rw [← hZ] at h2
          have hFXl : FX.length ≤ 4100 := by rw [hFX, List.length_append]; omega
          have hcat1 : (⟨fr.toArray⟩ : ByteArray) ++ (⟨X.toArray⟩ : ByteArray) = ⟨FX.toArray⟩ := by rw [bytes_cat, hFX]
          have hcat2 : (⟨FX.toArray⟩ : ByteArray) ++ (⟨tl.toArray⟩ : ByteArray) = ⟨Z.toArray⟩ := by rw [bytes_cat, hZ, hFX, List.append_assoc]
          clear Hlaw HR2
          subst h2
          simp only at hS
          clear hZ hFX
          go_wp2_with (at_builtin; refine stopAt ?_)
          refine (known_calls _).mono ?_
          rintro e w10 ⟨rfl, b10⟩
          replace hS := hS.ext b10
          have st0 := run_str (P := Try.prog) w10 Try.underlying22 Try.underlying5 (hS.rd 6 rfl) (c := cy) rfl Try.underlying9
          have st1 := run_str (P := Try.prog) w10 Try.underlying22 Try.underlying5 (k1.rd.ext hS.below) (c := c1) rfl Try.underlying9
          have st2 := run_str (P := Try.prog) w10 Try.underlying22 Try.underlying5 (hS.rd 3 rfl) (c := cx) rfl Try.underlying9
          have st3 := run_str (P := Try.prog) w10 Try.underlying22 Try.underlying5 (k2.rd.ext hS.below) (c := c2) rfl Try.underlying9
          have hbel := hS.below
          clear hS
          go_wp2
          go_ret
          exact ⟨rfl, hbel⟩
        · have hne : ((R.2 : Int) != 0) = true := by rw [bne_iff_ne]; omega
          go_wp2_with (at_builtin; refine stopAt ?_)
          refine (known_calls _).mono ?_
          rintro e w7 ⟨rfl, b7⟩
          have hb7 := (hS.ext b7).below
          go_wp2
          go_ret
          exact ⟨rfl, hb7⟩
end Go.Proofs.Ytjfmendfhpgopaa
