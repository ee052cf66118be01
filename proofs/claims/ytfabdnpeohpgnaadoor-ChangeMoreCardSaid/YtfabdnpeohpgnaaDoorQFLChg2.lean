import Derived.Test.YtfabdnpeohpgnaaDoorQFGPrn
import Derived.Test.YtfabdnpeohpgnaaDoorQArgs
import Derived.WideKeyArr2
import Derived.Test.YtfabdnpeohpgnaaDoorQAMS
import Derived.ChangeSame
import Derived.ChangeMaps5
import Derived.OpenShut
import Derived.Lib.SmallJoins
import Derived.Test.YtfabdnpeohpgnaaDoorQChgLaw
import Derived.Test.YtfabdnpeohpgnaaDoorQFGExs
import Derived.Test.YtfabdnpeohpgnaaDoorTie
import Derived.Lay
import Derived.Stop.Joined
import Derived.Test.YtfabdnpeohpgnaaDoorCards
import Derived.SevenTiedAt
import Derived.ProofKit
import Derived.ChangeOld
import Derived.Below
import Derived.Carry
namespace Go.Proofs.YtfabdnpeohpgnaaDoor
set_option linter.all false
open Go.RowKit
open Go.Lib (index hasPrefix cut indexAny itoa decDigits)
def zs20 : List UInt8 := List.replicate 20 0
def exH : ChgL := ⟨zs20, [117], 0, 0, [([98, 114, 97, 110, 99, 104], [120, 10])], [[97]], [100]⟩
theorem exH_right : rightH exH = true := by decide
def exRest : List UInt8 := [10, 117, 10, 48, 32, 48, 32, 98, 114, 97, 110, 99, 104, 58, 120, 92, 110, 10, 97, 10, 10, 100]
theorem itoa_0 : itoa 0 = [48] := by rw [itoa_dec (by decide), show (0 : Int).toNat = 0 from rfl, decD_small (by decide)]; rfl
theorem exH_body : bodyH exH = hexL zs20 ++ exRest := by
  unfold bodyH dateT exH
  simp only
  rw [itoa_0]; rfl
theorem exH_len : (bodyH exH).length = 62 := by
  rw [exH_body, List.length_append, hexL_length]; rfl
theorem exH_drop : (bodyH exH).drop 40 = exRest := by
  rw [exH_body]
  exact List.drop_left' (by rw [hexL_length]; rfl)
theorem exH_read : chgB (bodyH exH) = true ∧ chgC (bodyH exH) = exH := chg_body exH_right rfl
theorem exH_size : sizeH exH := ⟨rfl, by decide, by decide, by decide, by decide, by decide, by decide, by decide, by decide, ⟨by decide, by decide⟩, ⟨by decide, by decide⟩⟩
def exHB : List UInt8 := bodyH exH
theorem exHB_len : exHB.length = 62 := exH_len
theorem exHB_drop : exHB.drop 40 = exRest := exH_drop
theorem exHPr (pr : Prop) : gprnR ⟨unV (List.replicate 20 (Value.int .u8 0)), [117], 0, 0, [unEx (.agg [(1, .str [98, 114, 97, 110, 99, 104]), (1, .str [120, 10])])], [unS (.str [97])], [100]⟩ pr =
    some ⟨.tup [.own 0 0, .int .i64 0], [.row 5 1 0 (Bs exHB)], pr⟩ := by
  have : (⟨unV (List.replicate 20 (Value.int .u8 0)), [117], 0, 0, [unEx (.agg [(1, .str [98, 114, 97, 110, 99, 104]), (1, .str [120, 10])])], [unS (.str [97])], [100]⟩ : ChgL) = exH := rfl
  rw [this]
  unfold gprnR exHB
  rw [if_pos exH_right]
theorem exHRd (pr : Prop) : gparR (chgC exHB) (chgB exHB) pr = some ⟨.tup [.agg [(20, .blob (zs20.map U)), (1, .str [117]), (1, .int .i64 0), (1, .int .i64 0), (1, .own 0 1), (1, .own 1 1), (1, .str [100])], .int .i64 0],
    [.row 44 2 1 [.agg [(1, .str [98, 114, 97, 110, 99, 104]), (1, .str [120, 10])]], .row 9 1 1 [.str [97]]], pr⟩ := by
  unfold gparR exHB
  rw [exH_read.1, exH_read.2]; rfl
def gknownS : Spec := fun xs hp => match xs, hp with
  | [], [] => some ⟨.bool true, [], True⟩
  | _, _ => none
theorem unV_z20 : List.replicate 20 (Value.int .u8 0) = List.map U (unV (List.replicate 20 (Value.int .u8 0))) := rfl
theorem flat_By (l : List UInt8) : ∀ x, x ∈ Bs l → flatB 4 x = true := by
  intro x hx
  obtain ⟨u, _, rfl⟩ := List.mem_map.1 hx
  rfl
theorem flx_by (l : List UInt8) : (∀ x ∈ Bs l, flatB 4 x = true) = True := eq_true (flat_By l)
theorem flx_ex (l : List ExL) : (∀ x ∈ l.map exV, flatB 4 x = true) = True := eq_true fun x hx => by
  obtain ⟨u, _, rfl⟩ := List.mem_map.1 hx; rfl
theorem flx_st (l : List (List UInt8)) : (∀ x ∈ l.map AV.str, flatB 4 x = true) = True := eq_true fun x hx => by
  obtain ⟨u, _, rfl⟩ := List.mem_map.1 hx; rfl
theorem flx_of {α : Type} (l : List α) (f : α → AV) (h : ∀ a, flatB 4 (f a) = true) : ∀ x ∈ l.map f, flatB 4 x = true := fun x hx => by
  obtain ⟨u, _, rfl⟩ := List.mem_map.1 hx; exact h u
set_option maxHeartbeats 2000000 in
theorem gknown_ok : FnOk Tryd.prog 11 gknownS := by
  refine fn_slim2 Tryd.func11 s_gknown (Φ := phiL [(7, [], gprnS), (8, [], gparS)]) (phi_cons gprn_ok (by kernel_rfl) (phi_cons gpar_ok (by kernel_rfl) phi_nil)) ?_
  intro xs hp r hs hp'
  unfold gknownS at hs
  split at hs
  · injection hs with hs; subst hs
    refine ⟨len_le (by kernel_rfl), ?_⟩
    have h1 := exHB_len
    have h2 := exHB_drop
    have d1 : decide ((43 : Int) < (exHB.length : Int)) = true := decide_eq_true (by omega)
    have h3 : ((exHB.length : Int) - 40).toNat = 22 := by omega
    have h4 : (Bs exHB).drop 40 = Bs exRest := by rw [← h2]; simp [Bs]
    have h5 : (Bs exRest).take 22 = Bs exRest := List.take_of_length_le (by rw [Bs_len]; decide)
    have d2 : decide (exRest = [10, 117, 10, 48, 32, 48, 32, 98, 114, 97, 110, 99, 104, 58, 120, 92, 110, 10, 97, 10, 10, 100]) = true := rfl
    simp only [c_gknown, r_gknown, gprnS, exHPr, gparS, unB_Bs, exHRd, d1, d2, h3, h4, h5, ↓flx_by, go_sem, Nat.reduceDiv, Nat.reduceMod, ↓reduceIte, Nat.reduceEqDiff, Nat.reduceBEq, Nat.reduceSub, Nat.reduceLT, Nat.reduceAdd, Nat.reduceLeDiff, reduceCtorEq, Int.reduceEq, Int.reduceNe, Int.reduceLT, Int.reduceLE, Int.reduceToNat]
    refine ⟨⟨⟨unV_z20, rfl, rfl, .inl rfl, rfl⟩, exH_size⟩, ?_⟩
    (repeat' apply And.intro)
    all_goals first | omega | rfl | (intro x hx; rw [List.mem_singleton.1 hx]; rfl) | skip
    exact flx_of [[97]] AV.str (fun _ => rfl)
  · cases hs
end Go.Proofs.YtfabdnpeohpgnaaDoor
namespace Go.Proofs.YtfabdnpeohpgnaaDoor
set_option linter.all false
open Go.RowKit
open Go.Lib (index hasPrefix cut indexAny itoa decDigits)
theorem esc_pos (c : UInt8) : 1 ≤ (escC c).length := by
  unfold escC
  repeat' split
  all_goals simp
theorem tol_ge : ∀ v : List UInt8, v.length ≤ (tolL v).length
  | [] => Nat.le_refl _
  | c :: v => by
    have ih := tol_ge v
    have := esc_pos c
    unfold tolL at ih ⊢
    rw [List.flatMap_cons, List.length_append, List.length_cons]; omega
theorem exT_ge (x : ExL) : x.1.length + x.2.length + 1 ≤ (exT x).length := by
  have := tol_ge x.2
  unfold exT
  rw [List.length_append, List.length_cons]; omega
theorem exsT_ge : ∀ es : List ExL, es.length ≤ (exsT es).length ∧ ∀ x ∈ es, x.1.length + x.2.length ≤ (exsT es).length
  | [] => ⟨Nat.le_refl _, fun x hx => by cases hx⟩
  | y :: es => by
    have hf : es.length ≤ ((es.map exT).flatMap ((0 : UInt8) :: ·)).length ∧ ∀ x ∈ es, x.1.length + x.2.length ≤ ((es.map exT).flatMap ((0 : UInt8) :: ·)).length := by
      induction es with
      | nil => exact ⟨Nat.le_refl _, fun x hx => by cases hx⟩
      | cons z es ih =>
        obtain ⟨h1, h2⟩ := ih
        have := exT_ge z
        simp only [List.map_cons, List.flatMap_cons, List.length_append, List.length_cons]
        refine ⟨by omega, fun x hx => ?_⟩
        rcases List.mem_cons.1 hx with rfl | hx
        · omega
        · have := h2 x hx; omega
    obtain ⟨h1, h2⟩ := hf
    have := exT_ge y
    simp only [exsT, joinB, List.map_cons, List.length_append, List.length_cons]
    refine ⟨by omega, fun x hx => ?_⟩
    rcases List.mem_cons.1 hx with rfl | hx
    · omega
    · have := h2 x hx; omega
theorem sumF_mem : ∀ (l : List (List UInt8)) (x : List UInt8), x ∈ l → x.length ≤ sumL l
  | y :: l, x, h => by
    simp only [sumL, List.map_cons, List.sum_cons]
    rcases List.mem_cons.1 h with rfl | h
    · omega
    · have := sumF_mem l x h; simp only [sumL] at this; omega
theorem chg_size {s : List UInt8} (h : chgB s = true) (hs : s.length ≤ 100000) : sizeH (chgC s) ∧ (chgC s).desc.length ≤ s.length := by
  obtain ⟨h1, h2⟩ := body_chg h
  have hl := chgC_len s
  have hr := rightH_of h1
  generalize chgC s = c at *
  have e := body_len c
  rw [h2] at e
  have hd : (dateT c).length = (itoa c.time).length + (1 + ((itoa c.zone).length + (exsT c.extras).length)) := by
    unfold dateT; simp only [List.length_append, List.length_cons]; omega
  obtain ⟨g1, g2⟩ := exsT_ge c.extras
  refine ⟨⟨hl, by omega, by omega, by omega, fun x hx => ?_, fun f hf => ?_, by omega, by omega, by omega, ?_, ?_⟩, by omega⟩
  · have := g2 x hx; omega
  · have := sumF_mem _ f hf; omega
  · have := hr.time; unfold inI; omega
  · have := hr.zone; unfold inI; omega
def chgB9 (c : ChgL) : Prop := c.man.length = 20 ∧ c.user.length ≤ 9223372036854775807 ∧ inI c.time ∧ inI c.zone ∧ c.extras.length ≤ 9223372036854775807 ∧ (∀ x ∈ c.extras, x.1.length ≤ 9223372036854775807 ∧ x.2.length ≤ 9223372036854775807) ∧
  c.files.length ≤ 9223372036854775807 ∧ (∀ f ∈ c.files, f.length ≤ 9223372036854775807) ∧ c.desc.length ≤ 9223372036854775807
theorem max_of {c : ChgL} (h : chgB9 c) : maxH c := by
  obtain ⟨h1, h2, h3, h4, h5, h6, h7, h8, h9⟩ := h
  exact ⟨h1, h2, h5, h6, h7, h8, h9⟩
theorem sum_le (l : List (List UInt8)) (k : Nat) (h : ∀ x ∈ l, x.length ≤ k) : sumL l ≤ k * l.length := by
  induction l with
  | nil => simp [sumL]
  | cons x l ih =>
    have h1 := h x (List.mem_cons_self ..)
    have h2 := ih fun y hy => h y (List.mem_cons_of_mem _ hy)
    simp only [sumL, List.map_cons, List.sum_cons, List.length_cons] at h2 ⊢
    rw [Nat.mul_add, Nat.mul_one]; omega
theorem exT_le (x : ExL) : (exT x).length ≤ x.1.length + 2 * x.2.length + 1 := by
  have := tol_len x.2
  unfold exT
  rw [List.length_append, List.length_cons]; omega
theorem exsT_le (es : List ExL) (k : Nat) (h : ∀ x ∈ es, x.1.length + 2 * x.2.length + 2 ≤ k) : (exsT es).length ≤ k * es.length := by
  cases es with
  | nil => simp [exsT]
  | cons y es =>
    have hf : ∀ l : List ExL, (∀ x ∈ l, x.1.length + 2 * x.2.length + 2 ≤ k) → ((l.map exT).flatMap ((0 : UInt8) :: ·)).length ≤ k * l.length := by
      intro l
      induction l with
      | nil => intro _; simp
      | cons z l ih =>
        intro hl
        have h1 := hl z (List.mem_cons_self ..)
        have h2 := ih fun y hy => hl y (List.mem_cons_of_mem _ hy)
        have h3 := exT_le z
        simp only [List.map_cons, List.flatMap_cons, List.length_append, List.length_cons]
        rw [Nat.mul_add, Nat.mul_one]; omega
    have h1 := h y (List.mem_cons_self ..)
    have h2 := hf es fun y hy => h y (List.mem_cons_of_mem _ hy)
    have h3 := exT_le y
    simp only [exsT, joinB, List.map_cons, List.length_append, List.length_cons]
    rw [Nat.mul_add, Nat.mul_one]; omega
theorem toH_size (c : ChgL) (h : chgB9 c) : sizeH (toH c) ∧ (bodyH (toH c)).length ≤ 100000 := by
  obtain ⟨h1, h2, h3, h4, h5, h6, h7, h8, h9⟩ := h
  have u1 : (toH c).user.length ≤ 200 := by simp only [toH, List.length_take]; omega
  have d1 : (toH c).desc.length ≤ 500 := by simp only [toH, List.length_take]; omega
  have e1 : (toH c).extras.length ≤ 20 := by simp only [toH, List.length_map, List.length_take]; omega
  have f1 : (toH c).files.length ≤ 20 := by simp only [toH, List.length_map, List.length_take]; omega
  have e2 : ∀ x ∈ (toH c).extras, x.1.length ≤ 150 ∧ x.2.length ≤ 200 := by
    intro x hx
    obtain ⟨y, _, rfl⟩ := List.mem_map.1 hx
    simp only [exCut, List.length_take]; omega
  have f2 : ∀ f ∈ (toH c).files, f.length ≤ 300 := by
    intro f hf
    obtain ⟨y, _, rfl⟩ := List.mem_map.1 hf
    simp only [List.length_take]; omega
  have m1 : (toH c).man.length = 20 := h1
  have t1 : inI (toH c).time := h3
  have z1 : inI (toH c).zone := h4
  generalize toH c = d at *
  have g1 := exsT_le d.extras 552 fun x hx => by have := e2 x hx; omega
  have g2 := sum_le d.files 300 f2
  have g3 : 552 * d.extras.length ≤ 552 * 20 := Nat.mul_le_mul_left _ e1
  have g4 : 300 * d.files.length ≤ 300 * 20 := Nat.mul_le_mul_left _ f1
  have l1 := Lib.itoa_length_le d.time t1.1 t1.2
  have l2 := Lib.itoa_length_le d.zone z1.1 z1.2
  have hh := hexL_length d.man
  have hb := body_len d
  have hd : (dateT d).length = (itoa d.time).length + (1 + ((itoa d.zone).length + (exsT d.extras).length)) := by
    unfold dateT; simp only [List.length_append, List.length_cons]; omega
  refine ⟨⟨m1, by omega, by omega, by omega, fun x hx => ?_, fun f hf => ?_, by omega, by omega, by omega, t1, z1⟩, by omega⟩
  · have := e2 x hx; omega
  · have := f2 f hf; omega
theorem tb_19 (b : List UInt8) (k : Nat) : (Bs b).take (min (b.length : Int) (k : Int)).toNat = Bs (b.take k) := by
  show (List.map ub b).take _ = _
  rw [← List.map_take, tk_min]; rfl
theorem gparR_t {s : List UInt8} {c : ChgL} (h : chgB s = true) (hv : chgC s = c) (pr : Prop) : gparR (chgC s) (chgB s) pr =
    some ⟨.tup [.agg (cOwn c.man c.user c.time c.zone (.own 0 c.extras.length) (.own 1 c.files.length) c.desc), .int .i64 0], [.row 44 2 c.extras.length (c.extras.map exV), .row 9 1 c.files.length (c.files.map AV.str)], pr⟩ := by
  unfold gparR; rw [h, hv]; rfl
theorem gparR_f {s : List UInt8} (h : chgB s = false) (pr : Prop) : gparR (chgC s) (chgB s) pr = some ⟨.tup [.agg zOwn, .int .i64 4], [], pr⟩ := by
  unfold gparR; rw [h]; rfl
theorem gprnR_t {c : ChgL} (h : rightH c = true) (pr : Prop) : gprnR c pr = some ⟨.tup [.own 0 0, .int .i64 0], [.row 5 1 0 (Bs (bodyH c))], pr⟩ := by
  unfold gprnR; rw [if_pos h]
theorem gprnR_f {c : ChgL} (h : rightH c = false) (pr : Prop) : gprnR c pr = some ⟨.tup [.con (.slice none 0 0), .int .i64 4], [], pr⟩ := by
  unfold gprnR; rw [h]; rfl
end Go.Proofs.YtfabdnpeohpgnaaDoor
namespace Go.Proofs.YtfabdnpeohpgnaaDoor
set_option linter.all false
open Go.RowKit Go.ChangeShapes Go.WideShapes Go.ChangeAt Go.Deep
section
variable {H : Type} {enc : TypeId × Value → H} {P : Program} {w : World} {base : Nat} {spare : Nat → Bool} {held : Bool}
end
end Go.Proofs.YtfabdnpeohpgnaaDoor
namespace Go.Proofs.YtfabdnpeohpgnaaDoor
set_option linter.all false
open Go.RowKit Go.ChangeShapes Go.WideShapes Go.ChangeAt Go.Deep
section
variable {H : Type} {enc : TypeId × Value → H} {P : Program} {w : World} {base : Nat} {spare : Nat → Bool} {held : Bool}
end
end Go.Proofs.YtfabdnpeohpgnaaDoor
namespace Go.Proofs.YtfabdnpeohpgnaaDoor
set_option linter.all false
open Go.RowKit Go.ChangeShapes Go.WideShapes Go.ChangeAt Go.Deep
section
variable {H : Type} {enc : TypeId × Value → H} {P : Program} {w : World} {base : Nat} {spare : Nat → Bool} {held : Bool}
theorem trod_id {ta e : TypeId} {fuel : Nat} {cs : List Value} {x : DataW H × List MemPlace} (ha : P.underlying ta = some (.array 20 e)) (he : P.underlying e = some (.int .u8)) (hce : P.cellsOf e = 1) (hca : P.cellsOf ta = 20)
    (h : DataW.trod enc P w base spare held fuel ta cs = some x) : ∃ l : List UInt8, cs = l.map U ∧ l.length = 20 := by
  obtain ⟨xs, m, _, _, hl, hn, hel⟩ := DataW.trod_array ha h
  rw [hca] at hl
  obtain ⟨l, hlen, hp⟩ := list_of 20 (fun i (u : UInt8) => cs[i]? = some (U u)) (fun i hi => by
    have h5 := hel i hi
    rw [hce] at h5
    obtain ⟨x, hxj⟩ : ∃ x, xs[i]? = some x := ⟨xs[i]'(by omega), List.getElem?_eq_getElem (by omega)⟩
    rw [hxj] at h5
    obtain ⟨a, ea, _, wa⟩ := DataW.trod_int he h5
    have h4 : (Lit.int .u8 a).wf = true := wa
    simp [Lit.wf, IntKind.min, IntKind.max, IntKind.signed, IntKind.bits] at h4
    refine ⟨UInt8.ofNat a.toNat, ?_⟩
    have e4 := congrArg (fun l => l[0]?) ea
    simp only [List.getElem?_take, List.getElem?_drop, List.getElem?_cons_zero] at e4
    simp only [Nat.mul_one, Nat.add_zero] at e4
    rw [if_pos (by omega)] at e4
    rw [e4]
    unfold U
    congr 2
    simp
    omega)
  refine ⟨l, ?_, hlen⟩
  apply List.ext_getElem?
  intro i
  by_cases hi : i < 20
  · rw [hp i (by omega), List.getElem?_map, List.getElem?_eq_getElem (by omega)]; rfl
  · rw [List.getElem?_eq_none (by omega), List.getElem?_eq_none (by rw [List.length_map]; omega)]
theorem drop_split {α : Type} (c : List α) (a k : Nat) : c.drop a = (c.drop a).take k ++ c.drop (a + k) := by
  rw [← List.drop_drop, List.take_append_drop]
end
end Go.Proofs.YtfabdnpeohpgnaaDoor
namespace Go.Proofs.YtfabdnpeohpgnaaDoor
set_option linter.all false
open Go.RowKit Go.ChangeShapes Go.WideShapes Go.ChangeAt Go.Deep
section
variable {H : Type} {enc : TypeId × Value → H} {P : Program} {w : World} {base : Nat} {spare : Nat → Bool} {held : Bool}
theorem cell_lt {b o : Nat} {u : Value} (h : w.cell? ⟨b, o, none⟩ = some u) : b < w.heap.size := by
  rcases Nat.lt_or_ge b w.heap.size with h1 | h1
  · exact h1
  · simp [World.cell?, Array.getElem?_eq_none h1] at h
theorem flat_get (uss : List (List Value)) (k : Nat) (hk : ∀ us ∈ uss, us.length = k) (i j : Nat) (hi : i < uss.length) (hj : j < k) : uss.flatten[i * k + j]? = uss[i][j]? := by
  induction uss generalizing i with
  | nil => simp at hi
  | cons us uss ih =>
    have hl := hk us (List.mem_cons_self ..)
    cases i with
    | zero => simp only [List.flatten_cons, Nat.zero_mul, Nat.zero_add, List.getElem_cons_zero]; rw [List.getElem?_append_left (by omega)]
    | succ i =>
      simp only [List.flatten_cons, List.getElem_cons_succ]
      rw [List.getElem?_append_right (by rw [hl, Nat.succ_mul]; omega), hl, show (i + 1) * k + j - k = i * k + j by rw [Nat.succ_mul]; omega]
      exact ih (fun us h => hk us (List.mem_cons_of_mem _ h)) i (by simpa using hi)
theorem flat_len (uss : List (List Value)) (k : Nat) (hk : ∀ us ∈ uss, us.length = k) : uss.flatten.length = uss.length * k := by
  induction uss with
  | nil => simp
  | cons us uss ih => rw [List.flatten_cons, List.length_append, hk us (List.mem_cons_self ..), ih fun u h => hk u (List.mem_cons_of_mem _ h), List.length_cons, Nat.succ_mul]; omega
theorem open_sl {S : Nat → Prop} {ρ : Rho} (hS : ∀ b, b < w.heap.size → S b) {t e : TypeId} {k : Nat} (ht : P.underlying t = some (.slice e)) (hk : P.cellsOf e = k) (k0 : 0 < k) {α : Type} (g : α → AV) (Pr : α → Prop)
    (hel : ∀ fuel cs x, DataW.trod enc P w base spare held fuel e cs = some x → ∃ a, Cs w S rho0 (g a) cs ∧ cs.length = k ∧ Pr a)
    {fuel : Nat} {cs : List Value} {x : DataW H × List MemPlace} (h : DataW.trod enc P w base spare held fuel t cs = some x) : ∃ (v : Value) (xs : List α), cs = [v] ∧ Cs w S ρ (.sl k (xs.map g)) [v] ∧ xs.length ≤ 9223372036854775807 ∧ ∀ a ∈ xs, Pr a := by
  rcases open_slice ht h with ⟨h0, _⟩ | ⟨a, len, cap, m, n, D, Pl, hcs, hb, hl, hm, hmm, hx, hi⟩
  · exact ⟨_, [], h0, .sl0 _ _ _ (by omega), by simp, fun a ha => by cases ha⟩
  · have hcap : cap ≤ 9223372036854775807 := by simpa [maxLen] using hm
    obtain ⟨ps, hlen, hp⟩ := list_of len (fun i (p : α × List Value) => Cs w S rho0 (g p.1) p.2 ∧ p.2.length = k ∧ Pr p.1 ∧ ∀ j, j < k → w.cell? (a.add (i * k + j)) = p.2[j]?) (fun i hil => by
      have him : i < m := by rw [hmm]; split <;> omega
      obtain ⟨cs', hc, ht'⟩ := hi i him
      rw [hk] at hc
      obtain ⟨_, hcl, hat⟩ := World.cells?_some hc
      obtain ⟨y, h1, h2, h3⟩ := hel _ _ _ ht'
      exact ⟨(y, cs'), h1, h2, h3, fun j hj => by rw [← Go.Deep.add_add]; exact hat j hj⟩)
    refine ⟨_, ps.map Prod.fst, hcs, ?_, by rw [List.length_map]; omega, fun y hy => ?_⟩
    rotate_left
    · obtain ⟨p, hpm, rfl⟩ := List.mem_map.1 hy
      obtain ⟨i, hil, rfl⟩ := List.getElem_of_mem hpm
      exact (hp i hil).2.2.1
    rcases Nat.eq_zero_or_pos len with h0 | h0
    · subst h0
      obtain rfl := List.eq_nil_of_length_eq_zero hlen
      exact .sl0 _ _ _ hcap
    · have hks : ∀ us ∈ ps.map Prod.snd, us.length = k := by
        intro us hus
        obtain ⟨p, hpm, rfl⟩ := List.mem_map.1 hus
        obtain ⟨i, hil, rfl⟩ := List.getElem_of_mem hpm
        exact (hp i hil).2.1
      have hfl := flat_len _ k hks
      rw [List.length_map, hlen] at hfl
      obtain ⟨b, off, spot⟩ := a
      have hc0 := (hp 0 (by omega)).2.2.2 0 k0
      have hs0 : (ps[0]'(by omega)).2[0]? = some ((ps[0]'(by omega)).2[0]'(by rw [(hp 0 (by omega)).2.1]; exact k0)) := List.getElem?_eq_getElem _
      rw [hs0] at hc0
      have hspot : spot = none := by simpa [Addr.add] using World.cell?_spot hc0
      subst hspot
      rw [add_spot] at hc0
      have hcell : ∀ j, j < (ps.map Prod.snd).flatten.length → w.cell? ⟨b, off + j, none⟩ = (ps.map Prod.snd).flatten[j]? := by
        intro j hj
        rw [hfl] at hj
        have hjk : j / k < len := (Nat.div_lt_iff_lt_mul k0).2 hj
        have hjm := Nat.mod_lt j k0
        have h1 := (hp (j / k) (by omega)).2.2.2 (j % k) hjm
        have h2 := flat_get (ps.map Prod.snd) k hks (j / k) (j % k) (by rw [List.length_map]; omega) hjm
        rw [show j / k * k + j % k = j by rw [Nat.mul_comm]; exact Nat.div_add_mod j k] at h1 h2
        rw [add_spot] at h1
        rw [h1, h2, List.getElem_map]
      have hagg : Cs w S rho0 (.agg (prs k ((ps.map Prod.fst).map g))) (ps.map Prod.snd).flatten := by
        refine .agg _ (ps.map Prod.snd) (by simp [prs]) (fun i hi => ?_) (fun i hi => ?_)
        · have hi2 : i < ps.length := by simpa [prs] using hi
          have e1 : (ps.map Prod.snd).getD i [] = ps[i].2 := by simp [List.getD_eq_getElem?_getD, List.getElem?_eq_getElem hi2]
          have e2 : (prs k ((ps.map Prod.fst).map g)).getD i (0, .top) = (k, g ps[i].1) := by simp [prs, List.getD_eq_getElem?_getD, List.getElem?_eq_getElem hi2]
          rw [e1, e2]; exact (hp i hi2).2.1
        · have hi2 : i < ps.length := by simpa [prs] using hi
          have e1 : (ps.map Prod.snd).getD i [] = ps[i].2 := by simp [List.getD_eq_getElem?_getD, List.getElem?_eq_getElem hi2]
          have e2 : (prs k ((ps.map Prod.fst).map g)).getD i (0, .top) = (k, g ps[i].1) := by simp [prs, List.getD_eq_getElem?_getD, List.getElem?_eq_getElem hi2]
          rw [e1, e2]; exact (hp i hi2).1
      have hlx : ((ps.map Prod.fst).map g).length = len := by simpa using hlen
      have := Cs.sl (ρ := ρ) k ((ps.map Prod.fst).map g) (ps.map Prod.snd).flatten b off cap (hS b (cell_lt hc0)) hagg (by rw [hfl, hlx]) hcell (by rw [hlx]; omega) hcap
      rwa [hlx] at this
theorem trod_ex {S : Nat → Prop} {t : TypeId} {f0 f1 : Field} {fuel : Nat} {cs : List Value} {x : DataW H × List MemPlace} (ht : P.underlying t = some (.struct #[f0, f1])) (o0 : f0.offset = 0) (o1 : f1.offset = 1) (t0 : P.underlying f0.type = some .string) (t1 : P.underlying f1.type = some .string)
    (c0 : P.cellsOf f0.type = 1) (c1 : P.cellsOf f1.type = 1) (hct : P.cellsOf t = 2) (hf : DataW.trod enc P w base spare held fuel t cs = some x) :
    ∃ a : List UInt8 × List UInt8, Cs w S rho0 (.agg [(1, .str a.1), (1, .str a.2)]) cs ∧ cs.length = 2 ∧ (a.1.length ≤ 9223372036854775807 ∧ a.2.length ≤ 9223372036854775807) := by
  obtain ⟨xs, n, _, rfl, hl, hlen, hf⟩ := DataW.trod_struct ht hf
  have k0 := hf 0 f0 rfl
  have k1 := hf 1 f1 rfl
  rw [hct] at hl
  match xs, hlen, cs, hl with
  | [y0, y1], _, [a0, a1], _ =>
    rw [o0, c0] at k0
    rw [o1, c1] at k1
    obtain ⟨⟨⟨s0⟩⟩, e0, _, l0⟩ := DataW.trod_string t0 k0
    obtain ⟨⟨⟨s1⟩⟩, e1, _, l1⟩ := DataW.trod_string t1 k1
    simp at e0 e1
    subst e0 e1
    refine ⟨(s0, s1), ?_, rfl, by simpa [ByteArray.size, maxLen] using l0, by simpa [ByteArray.size, maxLen] using l1⟩
    exact Css.cs ⟨[.string ⟨s0.toArray⟩], _, rfl, rfl, .str s0, [.string ⟨s1.toArray⟩], [], rfl, rfl, .str s1, rfl⟩
end
end Go.Proofs.YtfabdnpeohpgnaaDoor
namespace Go.Proofs.YtfabdnpeohpgnaaDoor
set_option linter.all false
open Go.RowKit Go.ChangeShapes Go.WideShapes Go.ChangeAt Go.Deep
def chgPs (m u : List UInt8) (t z : Int) (E F : AV) (d : List UInt8) : List (Nat × AV) := [(20, .blob (m.map U)), (1, .str u), (1, .int .i64 t), (1, .int .i64 z), (1, E), (1, F), (1, .str d)]
def chgAV (c : ChgL) : AV := .agg (chgPs c.man c.user c.time c.zone (.sl 2 (c.extras.map exV)) (.sl 1 (c.files.map AV.str)) c.desc)
def chgAB (c : ChgL) : Prop := c.man.length = 20 ∧ c.user.length ≤ 9223372036854775807 ∧ inI c.time ∧ inI c.zone ∧ c.extras.length ≤ 9223372036854775807 ∧ (∀ x ∈ c.extras, x.1.length ≤ 9223372036854775807 ∧ x.2.length ≤ 9223372036854775807) ∧
  c.files.length ≤ 9223372036854775807 ∧ (∀ f ∈ c.files, f.length ≤ 9223372036854775807) ∧ c.desc.length ≤ 9223372036854775807
def ChgArg (w : World) (v : Value) : Prop := ∃ c : ChgL, (∀ ρ, Vl1 w (fun b => b < w.heap.size) ρ (chgAV c) v) ∧ chgAB c
section
variable {H : Type} {enc : TypeId × Value → H} {P : Program} {w : World} {base : Nat} {spare : Nat → Bool} {held : Bool}
theorem trod_struct7 {t : TypeId} {f0 f1 f2 f3 f4 f5 f6 : Field} {fuel : Nat} {cs : List Value} {x : DataW H × List MemPlace} (ht : P.underlying t = some (.struct #[f0, f1, f2, f3, f4, f5, f6])) (h : DataW.trod enc P w base spare held fuel t cs = some x) :
    ∃ y0 y1 y2 y3 y4 y5 y6 n, DataW.trod enc P w base spare held n f0.type ((cs.drop f0.offset).take (P.cellsOf f0.type)) = some y0 ∧
      DataW.trod enc P w base spare held n f1.type ((cs.drop f1.offset).take (P.cellsOf f1.type)) = some y1 ∧ DataW.trod enc P w base spare held n f2.type ((cs.drop f2.offset).take (P.cellsOf f2.type)) = some y2 ∧
      DataW.trod enc P w base spare held n f3.type ((cs.drop f3.offset).take (P.cellsOf f3.type)) = some y3 ∧ DataW.trod enc P w base spare held n f4.type ((cs.drop f4.offset).take (P.cellsOf f4.type)) = some y4 ∧
      DataW.trod enc P w base spare held n f5.type ((cs.drop f5.offset).take (P.cellsOf f5.type)) = some y5 ∧ DataW.trod enc P w base spare held n f6.type ((cs.drop f6.offset).take (P.cellsOf f6.type)) = some y6 := by
  obtain ⟨xs, n, _, rfl, hl, hlen, hf⟩ := DataW.trod_struct ht h
  match xs, hlen with
  | [y0, y1, y2, y3, y4, y5, y6], _ => exact ⟨y0, y1, y2, y3, y4, y5, y6, n, by simpa using hf 0 f0 rfl, by simpa using hf 1 f1 rfl, by simpa using hf 2 f2 rfl, by simpa using hf 3 f3 rfl, by simpa using hf 4 f4 rfl, by simpa using hf 5 f5 rfl, by simpa using hf 6 f6 rfl⟩
theorem trod_int1 {t : TypeId} {fuel : Nat} {cs : List Value} {x : DataW H × List MemPlace} (ht : P.underlying t = some (.int .i64)) (h : DataW.trod enc P w base spare held fuel t cs = some x) : ∃ i : Int, cs = [.int .i64 i] ∧ inI i := by
  obtain ⟨i, e, _, wi⟩ := DataW.trod_int ht h
  refine ⟨i, e, ?_⟩
  have h4 : (Lit.int .i64 i).wf = true := wi
  simp [Lit.wf, IntKind.min, IntKind.max, IntKind.signed, IntKind.bits] at h4
  unfold inI
  omega
theorem trod_str1 {t : TypeId} {fuel : Nat} {cs : List Value} {x : DataW H × List MemPlace} (ht : P.underlying t = some .string) (h : DataW.trod enc P w base spare held fuel t cs = some x) : ∃ l : List UInt8, cs = [.string ⟨l.toArray⟩] ∧ l.length ≤ 9223372036854775807 := by
  obtain ⟨⟨⟨l⟩⟩, e, _, hl⟩ := DataW.trod_string ht h
  exact ⟨l, e, by simpa [ByteArray.size, maxLen] using hl⟩
theorem open_chg {r : Reach} {b0 : Nat} {t ta e tx te tf ts : TypeId} {f0 f1 f2 f3 f4 f5 f6 h0 h1 : Field} {v : Value} {d : DataW H} {ps : List MemPlace} (ht : P.underlying t = some (.struct #[f0, f1, f2, f3, f4, f5, f6]))
    (o0 : f0.offset = 0) (o1 : f1.offset = 20) (o2 : f2.offset = 21) (o3 : f3.offset = 22) (o4 : f4.offset = 23) (o5 : f5.offset = 24) (o6 : f6.offset = 25) (hta : f0.type = ta) (htx : f4.type = tx) (htf : f5.type = tf)
    (ha : P.underlying ta = some (.array 20 e)) (he : P.underlying e = some (.int .u8)) (hx : P.underlying tx = some (.slice te)) (hex : P.underlying te = some (.struct #[h0, h1])) (q0 : h0.offset = 0) (q1 : h1.offset = 1) (hf : P.underlying tf = some (.slice ts)) (hs : P.underlying ts = some .string)
    (s1 : P.underlying f1.type = some .string) (s2 : P.underlying f2.type = some (.int .i64)) (s3 : P.underlying f3.type = some (.int .i64)) (s6 : P.underlying f6.type = some .string) (u0 : P.underlying h0.type = some .string) (u1 : P.underlying h1.type = some .string)
    (hce : P.cellsOf e = 1) (hca : P.cellsOf ta = 20) (hcx : P.cellsOf te = 2) (hcs : P.cellsOf ts = 1) (hct : P.cellsOf t = 26) (d1 : P.cellsOf f1.type = 1) (d2 : P.cellsOf f2.type = 1) (d3 : P.cellsOf f3.type = 1) (d4 : P.cellsOf tx = 1) (d5 : P.cellsOf tf = 1) (d6 : P.cellsOf f6.type = 1)
    (b0' : P.cellsOf h0.type = 1) (b1' : P.cellsOf h1.type = 1)
    (hval : Value.okWide P w r b0 t v) (hd : DataW.Trod enc P w base spare held t v d ps) : ChgArg w v := by
  simp only [Value.okWide, ht] at hval
  obtain ⟨cs, rfl, z2, _⟩ := hval
  rw [hct] at z2
  obtain ⟨fuel, hf0⟩ := hd
  obtain ⟨y0, y1, y2, y3, y4, y5, y6, n, k0, k1, k2, k3, k4, k5, k6⟩ := trod_struct7 ht hf0
  simp only [Value.cells] at k0 k1 k2 k3 k4 k5 k6
  obtain ⟨c⟩ := cs
  simp only at z2 k0 k1 k2 k3 k4 k5 k6
  have hc : c.length = 26 := by simpa using z2
  rw [o0, hta, hca] at k0
  rw [o1, d1] at k1
  rw [o2, d2] at k2
  rw [o3, d3] at k3
  rw [o4, htx, d4] at k4
  rw [o5, htf, d5] at k5
  rw [o6, d6] at k6
  obtain ⟨o, e0, l0⟩ := trod_id ha he hce hca k0
  obtain ⟨us, e1, l1⟩ := trod_str1 s1 k1
  obtain ⟨i2, e2, l2⟩ := trod_int1 s2 k2
  obtain ⟨i3, e3, l3⟩ := trod_int1 s3 k3
  obtain ⟨ds, e6, l6⟩ := trod_str1 s6 k6
  obtain ⟨v4, xl, e4, j4, n4, m4⟩ := open_sl (S := fun b => b < w.heap.size) (ρ := rho0) (fun _ h => h) hx hcx (by decide) exV (fun a => a.1.length ≤ 9223372036854775807 ∧ a.2.length ≤ 9223372036854775807) (fun fuel cs x h => trod_ex hex q0 q1 u0 u1 b0' b1' hcx h) k4
  obtain ⟨v5, fl, e5, j5, n5, m5⟩ := open_sl (S := fun b => b < w.heap.size) (ρ := rho0) (fun _ h => h) hf hcs (by decide) AV.str (fun a => a.length ≤ 9223372036854775807) (fun fuel cs x h => by
    obtain ⟨l, rfl, hl⟩ := trod_str1 hs h
    exact ⟨l, .str l, rfl, hl⟩) k5
  have hsp : c = o.map U ++ ([.string ⟨us.toArray⟩] ++ ([.int .i64 i2] ++ ([.int .i64 i3] ++ ([v4] ++ ([v5] ++ [.string ⟨ds.toArray⟩]))))) := by
    rw [← e0, ← e1, ← e2, ← e3, ← e4, ← e5, ← e6]
    conv => lhs; rw [← List.drop_zero (l := c), drop_split c 0 20, Nat.zero_add, drop_split c 20 1, drop_split c 21 1, drop_split c 22 1, drop_split c 23 1, drop_split c 24 1, drop_split c 25 1, List.drop_of_length_le (i := 25 + 1) (by omega)]
    simp
  subst hsp
  refine ⟨⟨o, us, i2, i3, xl, fl, ds⟩, fun ρ => ?_, l0, l1, l2, l3, n4, m4, n5, m5, l6⟩
  have g4 : Cs w (fun b => b < w.heap.size) ρ (.sl 2 (xl.map exV)) [v4] := j4.ext (fun _ _ => rfl) (fun _ h => h) (fun _ _ _ h => by cases h)
  have g5 : Cs w (fun b => b < w.heap.size) ρ (.sl 1 (fl.map AV.str)) [v5] := j5.ext (fun _ _ => rfl) (fun _ h => h) (fun _ _ _ h => by cases h)
  refine .inr ⟨_, ?_, rfl⟩
  exact Css.cs ⟨o.map U, _, rfl, by simpa using l0, .blob _ (fun u hu => by obtain ⟨x, _, rfl⟩ := List.mem_map.1 hu; rfl), [.string ⟨us.toArray⟩], _, rfl, rfl, .str us, [.int .i64 i2], _, rfl, rfl, .int .i64 i2, [.int .i64 i3], _, rfl, rfl, .int .i64 i3,
    [v4], _, rfl, rfl, g4, [v5], _, rfl, rfl, g5, [.string ⟨ds.toArray⟩], [], rfl, rfl, .str ds, rfl⟩
end
end Go.Proofs.YtfabdnpeohpgnaaDoor
namespace Go.Proofs.YtfabdnpeohpgnaaDoor
set_option linter.all false
open Go.RowKit
open Go.Lib (itoa)
noncomputable def lgbackS : Spec := fun xs hp => match xs, hp with
  | [.agg [(20, .blob m), (1, .str u), (1, .int .i64 t), (1, .int .i64 z), (1, .sl ke es), (1, .sl kf fs), (1, .str d)], .sl 1 bs], [] =>
    some ⟨.bool true, [], (argG m ke es kf fs ∧ chgB9 ⟨unV m, u, t, z, es.map unEx, fs.map unS, d⟩) ∧ bs = Bs (unB bs) ∧ bs.length ≤ 9223372036854775807⟩
  | _, _ => none
noncomputable def phiGBack : Phi := phiL [(6, [], lgtoS), (10, [], lgofS), (7, [], gprnS), (8, [], gparS), (9, [], rgsameS), (11, [], gknownS)]
theorem phiGBack_ok : PhiOk Tryd.prog phiGBack := phi_cons lgto_ok (by kernel_rfl) (phi_cons lgof_ok (by kernel_rfl) (phi_cons gprn_ok (by kernel_rfl) (phi_cons gpar_ok (by kernel_rfl) (phi_cons rgsame_ok (by kernel_rfl) (phi_cons gknown_ok (by kernel_rfl) phi_nil)))))
theorem phiGBack_1 : phiGBack 6 = some ([], lgtoS) := rfl
theorem phiGBack_2 : phiGBack 10 = some ([], lgofS) := rfl
theorem phiGBack_3 : phiGBack 7 = some ([], gprnS) := rfl
theorem phiGBack_4 : phiGBack 8 = some ([], gparS) := rfl
theorem phiGBack_5 : phiGBack 9 = some ([], rgsameS) := rfl
theorem phiGBack_6 : phiGBack 11 = some ([], gknownS) := rfl
set_option maxHeartbeats 8000000 in
set_option maxRecDepth 8000 in
theorem lgback_ok : FnOk Tryd.prog 3 lgbackS := by
  refine fn_slim2 Tryd.func3 s_glback phiGBack_ok ?_
  intro xs hp r hs hp'
  unfold lgbackS at hs
  split at hs
  · injection hs with hs; subst hs
    rename_i m u t z ke es kf fs d bs
    obtain ⟨⟨q0, p1⟩, qb, pb⟩ := hp'
    generalize unB bs = b at *
    subst qb
    rw [Bs_len] at pb
    refine ⟨len_le (by kernel_rfl), ?_⟩
    generalize hc : (⟨unV m, u, t, z, es.map unEx, fs.map unS, d⟩ : ChgL) = c at *
    have hmx := max_of p1
    obtain ⟨z1, z2⟩ := toH_size c p1
    generalize hd : toH c = d at *
    have htb := tb_19 b 2000
    have htb : (Bs b).take (min (b.length : Int) 2000).toNat = Bs (b.take 2000) := htb
    have hl : (b.take 2000).length ≤ 2000 := by rw [List.length_take]; omega
    generalize b.take 2000 = s at *
    have c20 := chgC_len s
    have hzT := eq_true z1
    have hmT := eq_true hmx
    cases hr : rightH d with
    | false =>
      have e : ∀ pr, gprnR d pr = _ := fun pr => gprnR_f hr pr
      obtain ⟨dm, du, dt, dz, de, df, dd⟩ := d
      obtain ⟨h1, h2, h3, h4, h5, h6, h7, h8, h9, h10, h11⟩ := z1
      simp only at h1 h2 h3 h4 h5 h6 h7 h8 h9 h10 h11
      cases hb : chgB s with
      | false =>
        have e1 := gparR_f hb
        simp only [c_glback, r_glback, hzT, hmT, hc, hd, htb, phiGBack_1, phiGBack_2, phiGBack_3, phiGBack_4, phiGBack_5, phiGBack_6, lgtoS, lgofS, gprnS, gparS, rgsameS, gknownS, cOwn, zOwn, argG, argH, argS7, unV_U, unEx_map, unS_map, unB_Bs, sameH_self, if_true, if_false, Bool.false_eq_true, List.length_map, ↓flx_ex, ↓flx_st, ↓flx_by, e, e1, go_sem, Nat.reduceDiv, Nat.reduceMod, ↓reduceIte, Nat.reduceEqDiff, Nat.reduceBEq, Nat.reduceSub, Nat.reduceLT, Nat.reduceAdd, Nat.reduceLeDiff, reduceCtorEq, Int.reduceEq, Int.reduceNe, Int.reduceLT, Int.reduceLE, Int.reduceToNat]
        (repeat' apply And.intro); all_goals first | exact q0.1 | exact q0.2.1 | exact q0.2.2.1 | exact q0.2.2.2.1 | exact q0.2.2.2.2 | omega | exact .inl trivial | exact .inr trivial | exact .inr rfl | exact c20 | exact h1 | exact hmx.1 | rfl | trivial | (intro p hp; cases hp; done) | skip
      | true =>
        obtain ⟨hz2, -⟩ := chg_size hb (by omega)
        obtain ⟨g1, g2⟩ := body_chg hb
        have hz4 := hz2
        obtain ⟨n1, n2, n3, n4, -⟩ := hz4
        obtain ⟨c2, hc2⟩ : ∃ c2, chgC s = c2 := ⟨_, rfl⟩
        have e1 := gparR_t hb hc2
        rw [hc2] at c20 hz2 g1 g2 n1 n2 n3 n4
        have e2 : ∀ pr, gprnR c2 pr = _ := fun pr => gprnR_t g1 pr
        rw [g2] at e2
        have hz3 := eq_true hz2
        obtain ⟨cm, cu, ct, cz, ce, cf, cd⟩ := c2
        simp only at c20 e1 n1 n2 n3 n4
        simp only [c_glback, r_glback, hzT, hz3, hmT, hc, hd, htb, phiGBack_1, phiGBack_2, phiGBack_3, phiGBack_4, phiGBack_5, phiGBack_6, lgtoS, lgofS, gprnS, gparS, rgsameS, gknownS, cOwn, zOwn, argG, argH, argS7, unV_U, unEx_map, unS_map, unB_Bs, sameH_self, if_true, if_false, Bool.false_eq_true, List.length_map, ↓flx_ex, ↓flx_st, ↓flx_by, e, e1, e2, go_sem, Nat.reduceDiv, Nat.reduceMod, ↓reduceIte, Nat.reduceEqDiff, Nat.reduceBEq, Nat.reduceSub, Nat.reduceLT, Nat.reduceAdd, Nat.reduceLeDiff, reduceCtorEq, Int.reduceEq, Int.reduceNe, Int.reduceLT, Int.reduceLE, Int.reduceToNat]
        (repeat' apply And.intro); all_goals first | exact q0.1 | exact q0.2.1 | exact q0.2.2.1 | exact q0.2.2.2.1 | exact q0.2.2.2.2 | omega | exact .inl trivial | exact .inr trivial | exact .inr rfl | exact c20 | exact h1 | exact hmx.1 | rfl | trivial | (intro p hp; cases hp; done) | skip
    | true =>
      have e : ∀ pr, gprnR d pr = _ := fun pr => gprnR_t hr pr
      obtain ⟨k1, k2⟩ := chg_body hr z1.1
      have eb := gparR_t k1 k2
      obtain ⟨dm, du, dt, dz, de, df, dd⟩ := d
      obtain ⟨h1, h2, h3, h4, h5, h6, h7, h8, h9, h10, h11⟩ := z1
      simp only at h1 h2 h3 h4 h5 h6 h7 h8 h9 h10 h11 eb
      generalize hbd : bodyH ⟨dm, du, dt, dz, de, df, dd⟩ = bd at *
      cases hb : chgB s with
      | false =>
        have e1 := gparR_f hb
        simp only [eb, c_glback, r_glback, hzT, hmT, hc, hd, htb, phiGBack_1, phiGBack_2, phiGBack_3, phiGBack_4, phiGBack_5, phiGBack_6, lgtoS, lgofS, gprnS, gparS, rgsameS, gknownS, cOwn, zOwn, argG, argH, argS7, unV_U, unEx_map, unS_map, unB_Bs, sameH_self, if_true, if_false, Bool.false_eq_true, List.length_map, ↓flx_ex, ↓flx_st, ↓flx_by, e, e1, go_sem, Nat.reduceDiv, Nat.reduceMod, ↓reduceIte, Nat.reduceEqDiff, Nat.reduceBEq, Nat.reduceSub, Nat.reduceLT, Nat.reduceAdd, Nat.reduceLeDiff, reduceCtorEq, Int.reduceEq, Int.reduceNe, Int.reduceLT, Int.reduceLE, Int.reduceToNat]
        (repeat' apply And.intro); all_goals first | exact q0.1 | exact q0.2.1 | exact q0.2.2.1 | exact q0.2.2.2.1 | exact q0.2.2.2.2 | omega | exact .inl trivial | exact .inr trivial | exact .inr rfl | exact c20 | exact h1 | exact hmx.1 | rfl | trivial | (intro p hp; cases hp; done) | skip
      | true =>
        obtain ⟨hz2, -⟩ := chg_size hb (by omega)
        obtain ⟨g1, g2⟩ := body_chg hb
        have hz4 := hz2
        obtain ⟨n1, n2, n3, n4, -⟩ := hz4
        obtain ⟨c2, hc2⟩ : ∃ c2, chgC s = c2 := ⟨_, rfl⟩
        have e1 := gparR_t hb hc2
        rw [hc2] at c20 hz2 g1 g2 n1 n2 n3 n4
        have e2 : ∀ pr, gprnR c2 pr = _ := fun pr => gprnR_t g1 pr
        rw [g2] at e2
        have hz3 := eq_true hz2
        obtain ⟨cm, cu, ct, cz, ce, cf, cd⟩ := c2
        simp only at c20 e1 n1 n2 n3 n4
        simp only [eb, c_glback, r_glback, hzT, hz3, hmT, hc, hd, htb, phiGBack_1, phiGBack_2, phiGBack_3, phiGBack_4, phiGBack_5, phiGBack_6, lgtoS, lgofS, gprnS, gparS, rgsameS, gknownS, cOwn, zOwn, argG, argH, argS7, unV_U, unEx_map, unS_map, unB_Bs, sameH_self, if_true, if_false, Bool.false_eq_true, List.length_map, ↓flx_ex, ↓flx_st, ↓flx_by, e, e1, e2, go_sem, Nat.reduceDiv, Nat.reduceMod, ↓reduceIte, Nat.reduceEqDiff, Nat.reduceBEq, Nat.reduceSub, Nat.reduceLT, Nat.reduceAdd, Nat.reduceLeDiff, reduceCtorEq, Int.reduceEq, Int.reduceNe, Int.reduceLT, Int.reduceLE, Int.reduceToNat]
        (repeat' apply And.intro); all_goals first | exact q0.1 | exact q0.2.1 | exact q0.2.2.1 | exact q0.2.2.2.1 | exact q0.2.2.2.2 | omega | exact .inl trivial | exact .inr trivial | exact .inr rfl | exact c20 | exact h1 | exact hmx.1 | rfl | trivial | (intro p hp; cases hp; done) | skip
  · cases hs
theorem changeBack_walk {v0 : Value} {A1 : Option Addr} {n1 c1 : Nat} {l1 : List UInt8} (w : World) (w0 : ChgArg w v0) (w1 : Arg w A1 n1 c1 l1) (g : GlobOk w (fun b => b < w.heap.size)) :
    Calls Tryd.prog 3 #[v0, .slice A1 n1 c1] w fun e w' => e = .returned (.bool true) ∧ Below w.heap.size w w' := by
  obtain ⟨c, hv, hc⟩ := w0
  exact lgback_ok.calls_bool (xs := [chgAV c, .sl 1 (Bs l1)]) rfl
    ⟨⟨⟨by rw [unV_U], by rw [unEx_map], by rw [unS_map], .inl rfl, rfl⟩, by rw [unV_U, unEx_map, unS_map]; exact hc⟩, by rw [unB_Bs], by rw [Bs_len]; have := w1.cap; have := w1.max; omega⟩ rfl
    (args_cons (hv _) (args_cons w1.vl (args_nil g)))
end Go.Proofs.YtfabdnpeohpgnaaDoor
namespace Go.Proofs.YtfabdnpeohpgnaaDoor
set_option linter.all false
open Go.ChangeShapes Go.WideShapes Go.ChangeAt Go.RowKit
set_option linter.unusedVariables false
theorem changeBack_own : ownKnob Tryd.prog.godebug = none := by kernel_rfl
theorem changeBack_laid : laidOutB Tryd.prog = true := by kernel_rfl
set_option maxRecDepth 100000 in
theorem changeBack_lifted (os : Os) (started : os.Started) (H : Type) (enc : TypeId × Value → H) :
    ReturnsInHanded {} Tryd.checked os 3 .any (fun w args => (Rows.changeBackSpec.pre enc Tryd.prog Tryd.f3 Rows.changeBackRow.domain false w args ∧ laidMetH Tryd.prog Rows.changeBackRow.laid w) ∧ sizedMet enc Tryd.prog Tryd.f3 (OpenSpec.ofChange Rows.changeBackSpec) false w args)
      (Rows.changeBackSpec.post enc Tryd.prog Tryd.f3 false true false false) := by
  refine returns_shaped (C := Tryd.checked) (X := fun w _ => laidMetH Tryd.prog Rows.changeBackRow.laid w) (fun _ _ _ hh h => h.of_heap hh) changeBack_own started (by kernel_rfl) Tryd.func3
    (ChangeSpec.witness_shaped (enc := enc) (C := Tryd.checked) (os := os) (X := fun w _ => laidMetH Tryd.prog Rows.changeBackRow.laid w) false (World.laidAll Tryd.prog os Rows.changeBackRow.laid) #[.agg (List.append (α := Value) (List.replicate 20 (.int .u8 0)) [.string ⟨#[]⟩, .int .i64 0, .int .i64 0, .slice none 0 0, .slice none 0 0, .string ⟨#[]⟩]).toArray, .slice none 0 0] 8 (World.laidAll_os _ _ _) (World.shaped_of_ZipB (by kernel_rfl) (by kernel_rfl)) (by kernel_rfl) (by kernel_rfl) (by kernel_rfl) (by rw [MakeChecks.laidMetH_plain _ _ _ (by kernel_rfl)]; exact laidMet_laidAll _ (by kernel_rfl) (by kernel_rfl))) ?_
  intro W base args ds gs before hval0 hW hL hsh
  have hval : ∀ (j : Nat) t v, Tryd.f3.params[j]? = some t → args[j]? = some v → Value.okWide Tryd.prog W .any base t v := hval0
  have hW' := hW
  obtain ⟨p, q, hA0, hV, rfl, hfz, hnd⟩ := hW
  have hA : DataW.TrodAll enc Tryd.prog W 0 (fun _ => true) true Tryd.f3.params.toList args.toList ds p := hA0
  rw [Tryd.params3] at hA hval
  obtain ⟨v0, vs0, d0, ds0, p0, q0, hargs, rfl, rfl, h0, r0⟩ := trodAll_cons hA
  obtain ⟨v1, vs1, d1, ds1, p1, q1, rfl, rfl, rfl, h1, r1⟩ := trodAll_cons r0
  obtain ⟨rfl, rfl, rfl⟩ := trodAll_nil r1
  obtain rfl : args = #[v0, v1] := by cases args; simp_all
  obtain ⟨rfl, rfl⟩ := trodVars_none hV
  have g0 := h0
  have lt0 : ∀ x ∈ p0, x.block < W.heap.size := by obtain ⟨m, hm⟩ := g0; exact DataW.trod_lt m _ _ _ hm
  have w0 : ChgArg W v0 := open_chg Tryd.underlying26 rfl rfl rfl rfl rfl rfl rfl rfl rfl rfl Tryd.underlying22 Tryd.underlying5 Tryd.underlying23 Tryd.underlying48 rfl rfl Tryd.underlying24 Tryd.underlying9 Tryd.underlying9 Tryd.underlying3 Tryd.underlying3 Tryd.underlying9 Tryd.underlying9 Tryd.underlying9 (by kernel_rfl) (by kernel_rfl) (by kernel_rfl) (by kernel_rfl) (by kernel_rfl) (by kernel_rfl) (by kernel_rfl) (by kernel_rfl) (by kernel_rfl) (by kernel_rfl) (by kernel_rfl) (by kernel_rfl) (by kernel_rfl) (hval 0 26 v0 rfl rfl) h0
  have g1 := h1
  have lt1 : ∀ x ∈ p1, x.block < W.heap.size := by obtain ⟨m, hm⟩ := g1; exact DataW.trod_lt m _ _ _ hm
  obtain ⟨A1, n1, c1, l1, rfl, w1⟩ := open_bytes Tryd.underlying27 Tryd.underlying5 (by kernel_rfl) (hval 1 27 v1 rfl rfl) h1
  clear hA0 hval0
  refine (changeBack_walk W w0 w1 (glob_of_laid hL hsh)).mono fun e W' ⟨he, bel⟩ => ?_
  subst he
  exact ⟨_, rfl, _, _, _, [], _, [], hW', trodAll_mk1 (shut_bool Tryd.underlying4 _), (trodAll_cons_mk (Below.trod changeBack_laid (by kernel_rfl) (of_decide_eq_true (by kernel_rfl)) g0 bel lt0) (trodAll_cons_mk (Below.trod changeBack_laid (by kernel_rfl) (of_decide_eq_true (by kernel_rfl)) g1 bel lt1) trodAll_mk0)), rfl, bel.frame _, fun h => by cases h⟩
theorem changeBack_row : Rows.ChangeBackSaid :=
  OpenClaim.holds_of_wide 3 Tryd.f3 rfl rfl rfl rfl rfl rfl rfl ⟨rfl, rfl, rfl, rfl, rfl⟩ rfl rfl rfl rfl rfl (by kernel_rfl) Tryd.func3 (by kernel_rfl)
    (of_decide_eq_true (by kernel_rfl)) (by unfold Func.isWrapper; first | (rw [if_pos (by decide +kernel)]; kernel_rfl) | (rw [if_neg (by decide +kernel)]; exact ⟨rfl, rfl⟩))
    (fun os started H enc _ => changeBack_lifted os started H enc)
theorem changeBack_proved : Rows.ChangeBackCardSaid :=
  Claim7.holds_tied_plain_at .later [] [.data, .data, .data, .data, .sentinel, .sentinel, .pinned] true (true, "f955a4003d5340cb1bad0a17146a221c5b4a062f28910e21f9f764634e58e770") true
    changeBack_row (fun _ h => by cases h) (by kernel_rfl) (fun _ h => by cases h) changeBack_row_tie rfl ⟨rfl, rfl⟩ (by kernel_rfl) rfl
    (fun f fn hf hfn => by
      obtain rfl : f = 3 := Option.some.inj ((show Tryd.prog.funcNamed "tramway/tramwaylaw19.ChangeBack" = some 3 by kernel_rfl).symm.trans hf) |>.symm
      obtain rfl : fn = Tryd.f3 := (Option.some.inj (Tryd.func3.symm.trans hfn)).symm
      exact ⟨by kernel_rfl, fun j t ht => by
        rw [Tryd.params3] at ht
        have hm : t ∈ [26, 27] := by simpa using Array.mem_of_getElem? ht
        have hall : ([26, 27].all fun u => !Tryd.prog.wantsStandIn u) = true := by kernel_rfl
        exact (show Tryd.prog.wantsStandIn t = false by simpa using List.all_eq_true.1 hall t hm)⟩)
    (by kernel_rfl)
end Go.Proofs.YtfabdnpeohpgnaaDoor
namespace Go.Proofs.YtfabdnpeohpgnaaDoor
set_option linter.all false
open Go.RowKit
open Go.Lib (itoa)
noncomputable def lgmoreS : Spec := fun xs hp => match xs, hp with
  | [.sl 1 bs, .sl 1 ms], [] => some ⟨.bool true, [], bs = Bs (unB bs) ∧ bs.length ≤ 9223372036854775807 ∧ ms = Bs (unB ms) ∧ ms.length ≤ 9223372036854775807⟩
  | _, _ => none
theorem Bs_cat (a b : List UInt8) : Bs a ++ Bs b = Bs (a ++ b) := by simp [Bs]
set_option maxHeartbeats 8000000 in
set_option maxRecDepth 8000 in
theorem lgmore_ok : FnOk Tryd.prog 4 lgmoreS := by
  refine fn_slim2 Tryd.func4 s_glmore phiGBack_ok ?_
  intro xs hp r hs hp'
  unfold lgmoreS at hs
  split at hs
  · injection hs with hs; subst hs
    rename_i bs ms
    obtain ⟨q0, p0, q1, p1⟩ := hp'
    generalize unB bs = b at *
    subst q0
    generalize unB ms = m at *
    subst q1
    rw [Bs_len] at p0 p1
    refine ⟨len_le (by kernel_rfl), ?_⟩
    have t1 := tb_19 b 2000
    have t1 : (Bs b).take (min (b.length : Int) 2000).toNat = Bs (b.take 2000) := t1
    have t2 := tb_19 m 200
    have t2 : (Bs m).take (min (m.length : Int) 200).toNat = Bs (m.take 200) := t2
    have hl : (b.take 2000).length ≤ 2000 := by rw [List.length_take]; omega
    have hm : (m.take 200).length ≤ 200 := by rw [List.length_take]; omega
    generalize b.take 2000 = s at *
    generalize m.take 200 = n at *
    have t3 := tb_19 s 40
    have t3 : (Bs s).take (min (s.length : Int) 40).toNat = Bs (s.take 40) := t3
    have hsh : (s.take 40).length ≤ 40 := by rw [List.length_take]; omega
    have e5 := gparR_f (chg_short hsh)
    have hla : (s ++ n).length ≤ 2200 := by rw [List.length_append]; omega
    have c20 := chgC_len s
    have d20 := chgC_len (s ++ n)
    cases h1 : chgB s with
    | true =>
      obtain ⟨h3, h4⟩ := chg_more (m := n) h1
      obtain ⟨⟨n1, n2, n3, n4, -⟩, mc⟩ := chg_size h1 (by omega)
      obtain ⟨c, hc⟩ : ∃ c, chgC s = c := ⟨_, rfl⟩
      have e1 := gparR_t h1 hc
      rw [hc] at h4 c20 n1 n2 n3 n4 mc
      have e2 := gparR_t h3 h4
      obtain ⟨cm, cu, ct, cz, ce, cf, cd⟩ := c
      simp only at c20 e1 e2 n1 n2 n3 n4 mc
      simp only [c_glmore, r_glmore, t1, t2, t3, Bs_cat, phiGBack_1, phiGBack_2, phiGBack_3, phiGBack_4, phiGBack_5, phiGBack_6, lgtoS, lgofS, gprnS, gparS, rgsameS, gknownS, cOwn, zOwn, argG, argH, argS7, unV_U, unEx_map, unS_map, unB_Bs, sameH_self, if_true, if_false, Bool.false_eq_true, List.length_map, ↓flx_ex, ↓flx_st, ↓flx_by, e1, e2, e5, go_sem, Nat.reduceDiv, Nat.reduceMod, ↓reduceIte, Nat.reduceEqDiff, Nat.reduceBEq, Nat.reduceSub, Nat.reduceLT, Nat.reduceAdd, Nat.reduceLeDiff, reduceCtorEq, Int.reduceEq, Int.reduceNe, Int.reduceLT, Int.reduceLE, Int.reduceToNat]
      (repeat' apply And.intro); all_goals first | omega | exact .inl trivial | exact .inr trivial | exact .inr rfl | exact c20 | exact d20 | rfl | trivial | (intro p hp; cases hp; done) | (first | omega | (simp only [lenOk, bytesOk, inI, IntKind.bits, List.length_append, Bs_len, List.length_cons, List.length_nil, List.length_map, List.length_take, List.length_drop, List.length_replicate]; omega)) | skip
    | false =>
      have e1 := gparR_f h1
      cases h3 : chgB (s ++ n) with
      | true =>
        obtain ⟨c, hc⟩ : ∃ c, chgC (s ++ n) = c := ⟨_, rfl⟩
        have e2 := gparR_t h3 hc
        rw [hc] at d20
        obtain ⟨cm, cu, ct, cz, ce, cf, cd⟩ := c
        simp only at d20 e2
        simp only [c_glmore, r_glmore, t1, t2, t3, Bs_cat, phiGBack_1, phiGBack_2, phiGBack_3, phiGBack_4, phiGBack_5, phiGBack_6, lgtoS, lgofS, gprnS, gparS, rgsameS, gknownS, cOwn, zOwn, argG, argH, argS7, unV_U, unEx_map, unS_map, unB_Bs, sameH_self, if_true, if_false, Bool.false_eq_true, List.length_map, ↓flx_ex, ↓flx_st, ↓flx_by, e1, e2, e5, go_sem, Nat.reduceDiv, Nat.reduceMod, ↓reduceIte, Nat.reduceEqDiff, Nat.reduceBEq, Nat.reduceSub, Nat.reduceLT, Nat.reduceAdd, Nat.reduceLeDiff, reduceCtorEq, Int.reduceEq, Int.reduceNe, Int.reduceLT, Int.reduceLE, Int.reduceToNat]
        (repeat' apply And.intro); all_goals first | omega | exact .inl trivial | exact .inr trivial | exact .inr rfl | exact c20 | exact d20 | rfl | trivial | (intro p hp; cases hp; done) | (first | omega | (simp only [lenOk, bytesOk, inI, IntKind.bits, List.length_append, Bs_len, List.length_cons, List.length_nil, List.length_map, List.length_take, List.length_drop, List.length_replicate]; omega)) | skip
      | false =>
        have e2 := gparR_f h3
        simp only [c_glmore, r_glmore, t1, t2, t3, Bs_cat, phiGBack_1, phiGBack_2, phiGBack_3, phiGBack_4, phiGBack_5, phiGBack_6, lgtoS, lgofS, gprnS, gparS, rgsameS, gknownS, cOwn, zOwn, argG, argH, argS7, unV_U, unEx_map, unS_map, unB_Bs, sameH_self, if_true, if_false, Bool.false_eq_true, List.length_map, ↓flx_ex, ↓flx_st, ↓flx_by, e1, e2, e5, go_sem, Nat.reduceDiv, Nat.reduceMod, ↓reduceIte, Nat.reduceEqDiff, Nat.reduceBEq, Nat.reduceSub, Nat.reduceLT, Nat.reduceAdd, Nat.reduceLeDiff, reduceCtorEq, Int.reduceEq, Int.reduceNe, Int.reduceLT, Int.reduceLE, Int.reduceToNat]
        (repeat' apply And.intro); all_goals first | omega | exact .inl trivial | exact .inr trivial | exact .inr rfl | exact c20 | exact d20 | rfl | trivial | (intro p hp; cases hp; done) | (first | omega | (simp only [lenOk, bytesOk, inI, IntKind.bits, List.length_append, Bs_len, List.length_cons, List.length_nil, List.length_map, List.length_take, List.length_drop, List.length_replicate]; omega)) | skip
  · cases hs
theorem changeMore_walk {A0 : Option Addr} {n0 c0 : Nat} {l0 : List UInt8} {A1 : Option Addr} {n1 c1 : Nat} {l1 : List UInt8} (w : World) (w0 : Arg w A0 n0 c0 l0) (w1 : Arg w A1 n1 c1 l1) (g : GlobOk w (fun b => b < w.heap.size)) :
    Calls Tryd.prog 4 #[.slice A0 n0 c0, .slice A1 n1 c1] w fun e w' => e = .returned (.bool true) ∧ Below w.heap.size w w' :=
  lgmore_ok.calls_bool (xs := [.sl 1 (Bs l0), .sl 1 (Bs l1)]) rfl ⟨by rw [unB_Bs], by rw [Bs_len]; have := w0.cap; have := w0.max; omega, by rw [unB_Bs], by rw [Bs_len]; have := w1.cap; have := w1.max; omega⟩ rfl
    (args_cons w0.vl (args_cons w1.vl (args_nil g)))
end Go.Proofs.YtfabdnpeohpgnaaDoor
namespace Go.Proofs.YtfabdnpeohpgnaaDoor
set_option linter.all false
open Go.ChangeShapes Go.WideShapes Go.ChangeAt Go.RowKit
set_option linter.unusedVariables false
theorem changeMore_own : ownKnob Tryd.prog.godebug = none := by kernel_rfl
theorem changeMore_laid : laidOutB Tryd.prog = true := by kernel_rfl
set_option maxRecDepth 100000 in
theorem changeMore_lifted (os : Os) (started : os.Started) (H : Type) (enc : TypeId × Value → H) :
    ReturnsInHanded {} Tryd.checked os 4 .any (fun w args => (Rows.changeMoreSpec.pre enc Tryd.prog Tryd.f4 Rows.changeMoreRow.domain false w args ∧ laidMetH Tryd.prog Rows.changeMoreRow.laid w) ∧ sizedMet enc Tryd.prog Tryd.f4 (OpenSpec.ofChange Rows.changeMoreSpec) false w args)
      (Rows.changeMoreSpec.post enc Tryd.prog Tryd.f4 false true false false) := by
  refine returns_shaped (C := Tryd.checked) (X := fun w _ => laidMetH Tryd.prog Rows.changeMoreRow.laid w) (fun _ _ _ hh h => h.of_heap hh) changeMore_own started (by kernel_rfl) Tryd.func4
    (ChangeSpec.witness_shaped (enc := enc) (C := Tryd.checked) (os := os) (X := fun w _ => laidMetH Tryd.prog Rows.changeMoreRow.laid w) false (World.laidAll Tryd.prog os Rows.changeMoreRow.laid) #[.slice none 0 0, .slice none 0 0] 8 (World.laidAll_os _ _ _) (World.shaped_of_ZipB (by kernel_rfl) (by kernel_rfl)) (by kernel_rfl) (by kernel_rfl) (by kernel_rfl) (by rw [MakeChecks.laidMetH_plain _ _ _ (by kernel_rfl)]; exact laidMet_laidAll _ (by kernel_rfl) (by kernel_rfl))) ?_
  intro W base args ds gs before hval0 hW hL hsh
  have hval : ∀ (j : Nat) t v, Tryd.f4.params[j]? = some t → args[j]? = some v → Value.okWide Tryd.prog W .any base t v := hval0
  have hW' := hW
  obtain ⟨p, q, hA0, hV, rfl, hfz, hnd⟩ := hW
  have hA : DataW.TrodAll enc Tryd.prog W 0 (fun _ => true) true Tryd.f4.params.toList args.toList ds p := hA0
  rw [Tryd.params4] at hA hval
  obtain ⟨v0, vs0, d0, ds0, p0, q0, hargs, rfl, rfl, h0, r0⟩ := trodAll_cons hA
  obtain ⟨v1, vs1, d1, ds1, p1, q1, rfl, rfl, rfl, h1, r1⟩ := trodAll_cons r0
  obtain ⟨rfl, rfl, rfl⟩ := trodAll_nil r1
  obtain rfl : args = #[v0, v1] := by cases args; simp_all
  obtain ⟨rfl, rfl⟩ := trodVars_none hV
  have g0 := h0
  have lt0 : ∀ x ∈ p0, x.block < W.heap.size := by obtain ⟨m, hm⟩ := g0; exact DataW.trod_lt m _ _ _ hm
  obtain ⟨A0, n0, c0, l0, rfl, w0⟩ := open_bytes Tryd.underlying27 Tryd.underlying5 (by kernel_rfl) (hval 0 27 v0 rfl rfl) h0
  have g1 := h1
  have lt1 : ∀ x ∈ p1, x.block < W.heap.size := by obtain ⟨m, hm⟩ := g1; exact DataW.trod_lt m _ _ _ hm
  obtain ⟨A1, n1, c1, l1, rfl, w1⟩ := open_bytes Tryd.underlying27 Tryd.underlying5 (by kernel_rfl) (hval 1 27 v1 rfl rfl) h1
  clear hA0 hval0
  refine (changeMore_walk W w0 w1 (glob_of_laid hL hsh)).mono fun e W' ⟨he, bel⟩ => ?_
  subst he
  exact ⟨_, rfl, _, _, _, [], _, [], hW', trodAll_mk1 (shut_bool Tryd.underlying4 _), (trodAll_cons_mk (Below.trod changeMore_laid (by kernel_rfl) (of_decide_eq_true (by kernel_rfl)) g0 bel lt0) (trodAll_cons_mk (Below.trod changeMore_laid (by kernel_rfl) (of_decide_eq_true (by kernel_rfl)) g1 bel lt1) trodAll_mk0)), rfl, bel.frame _, fun h => by cases h⟩
theorem changeMore_row : Rows.ChangeMoreSaid :=
  OpenClaim.holds_of_wide 4 Tryd.f4 rfl rfl rfl rfl rfl rfl rfl ⟨rfl, rfl, rfl, rfl, rfl⟩ rfl rfl rfl rfl rfl (by kernel_rfl) Tryd.func4 (by kernel_rfl)
    (of_decide_eq_true (by kernel_rfl)) (by unfold Func.isWrapper; first | (rw [if_pos (by decide +kernel)]; kernel_rfl) | (rw [if_neg (by decide +kernel)]; exact ⟨rfl, rfl⟩))
    (fun os started H enc _ => changeMore_lifted os started H enc)
theorem changeMore_proved : Rows.ChangeMoreCardSaid :=
  Claim7.holds_tied_plain_at .later [] [.data, .data, .data, .data, .sentinel, .sentinel, .pinned] true (true, "f955a4003d5340cb1bad0a17146a221c5b4a062f28910e21f9f764634e58e770") true
    changeMore_row (fun _ h => by cases h) (by kernel_rfl) (fun _ h => by cases h) changeMore_row_tie rfl ⟨rfl, rfl⟩ (by kernel_rfl) rfl
    (fun f fn hf hfn => by
      obtain rfl : f = 4 := Option.some.inj ((show Tryd.prog.funcNamed "tramway/tramwaylaw19.ChangeMore" = some 4 by kernel_rfl).symm.trans hf) |>.symm
      obtain rfl : fn = Tryd.f4 := (Option.some.inj (Tryd.func4.symm.trans hfn)).symm
      exact ⟨by kernel_rfl, fun j t ht => by
        rw [Tryd.params4] at ht
        have hm : t ∈ [27, 27] := by simpa using Array.mem_of_getElem? ht
        have hall : ([27, 27].all fun u => !Tryd.prog.wantsStandIn u) = true := by kernel_rfl
        exact (show Tryd.prog.wantsStandIn t = false by simpa using List.all_eq_true.1 hall t hm)⟩)
    (by kernel_rfl)
end Go.Proofs.YtfabdnpeohpgnaaDoor
namespace Go.Proofs.YtfabdnpeohpgnaaDoor
set_option linter.all false
open Go.RowKit
def valG : List ExL → List UInt8 → List UInt8 × Bool
  | [], _ => ([], false)
  | x :: l, k => if x.1 = k then (x.2, true) else valG l k
theorem valG_drop (es : List ExL) (k : List UInt8) {i : Nat} (h : i < es.length) : valG (es.drop i) k = if es[i].1 = k then (es[i].2, true) else valG (es.drop (i + 1)) k := by
  rw [List.drop_eq_getElem_cons h, valG]
def gvalS : Spec := fun xs hp => match xs, hp with
  | [.agg [(20, .blob _), (1, .str _), (1, .int .i64 _), (1, .int .i64 _), (1, .sl ke es), (1, .sl _ _), (1, .str _)], .str k], [] =>
    some ⟨.tup [.str (valG (es.map unEx) k).1, .bool (valG (es.map unEx) k).2], [], es = (es.map unEx).map exV ∧ (ke = 2 ∨ es = []) ∧ es.length ≤ 1000000000⟩
  | _, _ => none
set_option maxHeartbeats 4000000 in
theorem gval_ok : FnOk Tryd.prog 12 gvalS := by
  refine fn_slim2 Tryd.func12 s_gval phi_nil ?_
  intro xs hp r hs hp'
  unfold gvalS at hs
  split at hs
  · rename_i m u t z ke es kf fs d k
    injection hs with hs; subst hs
    obtain ⟨q2, q4, z3⟩ := hp'
    generalize es.map unEx = es at *
    subst q2
    rw [List.length_map] at z3
    refine ⟨len_le (by kernel_rfl), ?_⟩
    simp only [c_gval, List.length_map, go_sem, Nat.reduceDiv, Nat.reduceMod, ↓reduceIte, Nat.reduceEqDiff, Nat.reduceBEq, Nat.reduceSub, Nat.reduceLT, Nat.reduceAdd, Nat.reduceLeDiff, reduceCtorEq, Int.reduceEq, Int.reduceNe, Int.reduceLT, Int.reduceLE, Int.reduceToNat]
    refine loop2P [] [1, 9, 10, 11] [0] (fun i : Nat => ⟨[(1, .str k), (9, .sl ke (es.map exV)), (10, .int .i64 (es.length : Int)), (11, .int .i64 (i : Int))], [.cells 31 [(20, .blob m), (1, .str u), (1, .int .i64 t), (1, .int .i64 z), (1, .sl ke (es.map exV)), (1, .sl kf fs), (1, .str d)]]⟩)
      (fun i => i ≤ es.length ∧ valG es k = valG (es.drop i) k) (fun i => es.length - i) 0 (by rfl) ⟨Nat.zero_le _, by simp⟩ ⟨rfl, by rfl⟩ (fun i hi R hR => ?_)
    obtain ⟨i1, i2⟩ := hi
    by_cases hil : i < es.length
    · have c1 : decide ((i : Int) < (es.length : Int)) = true := decide_eq_true (by omega)
      have hk : ke = 2 := q4.resolve_right (by intro h; have := congrArg List.length h; simp at this; rw [this] at hil; simp at hil)
      have hget := getD_map exV es ([], []) (AV.agg [(1, AV.str []), (1, AV.str [])]) hil
      have hga : es.getD i ([], []) = es[i] := by simp [List.getD_eq_getElem?_getD, List.getElem?_eq_getElem hil]
      have hst := valG_drop es k hil
      subst hk
      generalize hx : es[i] = x at *
      by_cases h1 : x.1 = k
      · have d1 : decide (x.1 = k) = true := decide_eq_true h1
        rw [if_pos h1] at hst
        rw [hst] at i2
        simp only [b_gval_0, t_gval_0, r_gval, c1, d1, i2, hget, hga, exV, Int.toNat_natCast, List.length_map, go_sem, Nat.reduceDiv, Nat.reduceMod, ↓reduceIte, Nat.reduceEqDiff, Nat.reduceBEq, Nat.reduceSub, Nat.reduceLT, Nat.reduceAdd, Nat.reduceLeDiff, reduceCtorEq, Int.reduceEq, Int.reduceNe, Int.reduceLT, Int.reduceLE, Int.reduceToNat]
        exact ⟨by omega, by omega⟩
      · have d1 : decide (x.1 = k) = false := decide_eq_false h1
        rw [if_neg h1] at hst
        simp only [b_gval_0, t_gval_0, r_gval, c1, d1, hget, hga, exV, Int.toNat_natCast, List.length_map, go_sem, Nat.reduceDiv, Nat.reduceMod, ↓reduceIte, Nat.reduceEqDiff, Nat.reduceBEq, Nat.reduceSub, Nat.reduceLT, Nat.reduceAdd, Nat.reduceLeDiff, reduceCtorEq, Int.reduceEq, Int.reduceNe, Int.reduceLT, Int.reduceLE, Int.reduceToNat]
        exact ⟨⟨by omega, by omega⟩, ⟨by omega, by omega⟩, hR _ (i + 1) ⟨hil, i2.trans hst⟩ (by omega) rfl⟩
    · have c1 : decide ((i : Int) < (es.length : Int)) = false := decide_eq_false (by omega)
      rw [List.drop_eq_nil_of_le (by omega)] at i2
      simp only [b_gval_0, t_gval_0, r_gval, c1, i2, valG, go_sem, Nat.reduceDiv, Nat.reduceMod, ↓reduceIte, Nat.reduceEqDiff, Nat.reduceBEq, Nat.reduceSub, Nat.reduceLT, Nat.reduceAdd, Nat.reduceLeDiff, reduceCtorEq, Int.reduceEq, Int.reduceNe, Int.reduceLT, Int.reduceLE, Int.reduceToNat]
  · cases hs
end Go.Proofs.YtfabdnpeohpgnaaDoor
