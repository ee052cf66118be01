import Derived.Test.YtakojeefilpibaaDoorVParse
import Derived.Test.YtakojeefilpibaaDoorVAMS
import Derived.Test.YtakojeefilpibaaDoorVMem
import Derived.Laws.RangeAny
import Derived.Laws.Runes
import Derived.Deep.LoopGhost
import Derived.Deep.QuietTactic
import Derived.WalkMore
import Derived.Test.YtakojeefilpibaaDoorChecked
namespace Go.Proofs.YtakojeefilpibaaDoor
set_option linter.all false
open Go.RowKit
open Go.Lib (index hasPrefix trimPrefix cut indexAny)
theorem css_strs {w : World} {S : Nat → Prop} {ρ : Rho} : ∀ ps : List (List UInt8), Css w S ρ (prs 1 (ps.map AV.str)) (ps.map fun l => Value.string ⟨l.toArray⟩)
  | [] => rfl
  | l :: ps => ⟨[_], _, rfl, rfl, .str l, css_strs ps⟩
def splitS : Spec := fun xs hp => match xs, hp with
  | [.str s, .str [c]], [] => some ⟨.own 0 0, [.row 9 1 0 ((psl c s).map AV.str)], s.length < 4294967281⟩
  | _, _ => none
theorem split_ok : FnOk Tryd.prog 9 splitS := by
  refine fnok_row fun xs0 hp r hs hp' => ?_
  unfold splitS at hs
  split at hs
  · rename_i s c
    injection hs with hs; subst hs
    refine ⟨rfl, _, _, _, rfl, rfl, fun w S ρ args hS ha => ?_⟩
    obtain ⟨m, hm⟩ := maxLen_cell ha.glob
    obtain ⟨v, vs, rfl, hv, hr⟩ := ha.get _ _ rfl
    obtain ⟨u, us, rfl, hu, hr⟩ := hr.get _ _ rfl
    obtain rfl := hr.none
    rw [hv.str, hu.str]
    refine (Tryd.strings_Split ⟨s.toArray⟩ ⟨[c].toArray⟩ m w (by rw [Lib.size_eq]; exact hp') hm (Nat.le_refl 1)).mono ?_
    rintro e w' ⟨rfl, rfl⟩
    have e1 : (Lib.splitB ⟨[c].toArray⟩ 0 (Lib.countB ⟨s.toArray⟩ ⟨[c].toArray⟩) ⟨s.toArray⟩).map (·.data.toList) = psl c s := by
      rw [Lib.splitB_data]; exact splitK_psl c s
    obtain ⟨X, hX⟩ : ∃ X, Lib.splitB ⟨[c].toArray⟩ 0 (Lib.countB ⟨s.toArray⟩ ⟨[c].toArray⟩) ⟨s.toArray⟩ = X := ⟨_, rfl⟩
    have e2 : X.length = Lib.countB ⟨s.toArray⟩ ⟨[c].toArray⟩ + 1 := by rw [← hX]; exact Lib.splitB_all ⟨[c].toArray⟩ (Nat.le_refl 1) 0 _ _ rfl
    rw [hX] at e1
    have e3 : X.map Value.string = (psl c s).map fun l => Value.string ⟨l.toArray⟩ := by
      rw [← e1, List.map_map]
      refine List.map_congr_left fun x _ => ?_
      simp only [Function.comp_apply, of_bs]
    have e4 : (psl c s).length = Lib.countB ⟨s.toArray⟩ ⟨[c].toArray⟩ + 1 := by rw [← e1, List.length_map, e2]
    have e5 := psl_join_len c s
    have hp2 : s.length < 4294967281 := hp'
    rw [hX, e3, ← e4]
    refine ⟨w.heap.size, _, _, _, ((psl c s).map fun l => Value.string ⟨l.toArray⟩).toArray, (0, 0), rfl, (Below.refl _ _).alloc (Nat.le_refl _) _, Nat.le_refl _, ?_, .inl rfl, Nat.le_refl _, by omega, by simp, ?_, by simp, by simp, css_strs _⟩
    · show (w.heap.push (Obj.cells _ _ _))[w.heap.size]? = _
      simp
    · rw [List.take_of_length_le (by simp)]
  · cases hs
end Go.Proofs.YtakojeefilpibaaDoor
namespace Go.Proofs.YtakojeefilpibaaDoor
set_option linter.all false
open Go.RowKit
def asciiB (p : List UInt8) : Bool := p.all (fun b => decide (b.toNat < 128)) && decide (2 ≤ p.length) && decide (p.length ≤ 8)
structure AsciiSet (C : ByteArray) : Prop where
  low : ∀ b ∈ C.data.toList, b.toNat < 128
  two : 2 ≤ C.size
  few : C.size ≤ 8
theorem asciiSet_of {p : List UInt8} (h : asciiB p = true) : AsciiSet ⟨p.toArray⟩ := by
  simp only [asciiB, Bool.and_eq_true, List.all_eq_true, decide_eq_true_eq] at h
  exact ⟨h.1.1, h.1.2, h.2⟩
section
variable {C : ByteArray} (hA : AsciiSet C)
include hA
theorem set_hi (b : UInt8) (hb : 128 ≤ b.toNat) : C.data.toList.contains b = false := by
  rw [Bool.eq_false_iff]
  intro h
  have := hA.low b (by simpa using h)
  omega
theorem set_get (i : Nat) (h : i < C.size) : (C[i]'h).toNat < 128 := by
  refine hA.low _ ?_
  have := Lib.data_getElem? C i h
  exact List.mem_of_getElem? this
theorem ibS (n : Nat) (b : UInt8) (hb : 128 ≤ b.toNat) : Lib.indexByte (List.take (C.size - (n + 1)) (List.drop (n + 1) C.data.toList)) b = -1 := by
  have gen : ∀ l : List UInt8, (∀ x ∈ l, x.toNat < 128) → Lib.indexByte l b = -1 := by
    intro l
    induction l with
    | nil => intro _; rfl
    | cons x l ih =>
      intro h
      have hx := h x (by simp)
      have e : (x == b) = false := beq_eq_false_iff_ne.2 (by rintro rfl; omega)
      simp [Lib.indexByte, e, ih fun y hy => h y (by simp [hy])]
  exact gen _ fun x hx => hA.low x (List.mem_of_mem_drop (List.mem_of_mem_take hx))
end
theorem encode_hi (r : Int) (h : 128 ≤ r) : ∃ l : List UInt8, (Utf8.encode r).data.toList = l ∧ 2 ≤ l.length ∧ l.length ≤ 4 ∧ 128 ≤ (l.getD (l.length - 1) 0).toNat := by
  refine ⟨_, rfl, ?_⟩
  unfold Utf8.encode
  dsimp only
  have hc : 128 ≤ (if Utf8.valid r = true then r.toNat else Utf8.runeError) := by
    split
    · omega
    · decide
  generalize (if Utf8.valid r = true then r.toNat else Utf8.runeError) = c at *
  by_cases h2 : c < 2048
  · simp [show ¬ c < 128 by omega, h2]; omega
  · by_cases h3 : c < 65536
    · simp [show ¬ c < 128 by omega, h2, h3]; omega
    · simp [show ¬ c < 128 by omega, h2, h3]; omega
set_option maxHeartbeats 2000000 in
set_option maxRecDepth 1000000 in
theorem indexRune_err {C : ByteArray} (hA : AsciiSet C) (w : World) :
    Calls Tryd.prog 44 #[.string C, .int .i32 65533] w fun e w' => e = .returned (.int .i64 (-1)) ∧ Below w.heap.size w w' := by
  have HA : Aside (AsciiSet C) := hA
  clear hA
  go_enter Tryd.func44, Tryd.ntmps44
  go_wp2
  go_loopg [5, 6] C.size (fun g _ _ wx => ∃ i : Nat, i + g = C.size ∧ wx = w.iter C i)
  case atStart => exact ⟨0, by omega, rfl⟩
  case round =>
    obtain ⟨i, hig, rfl⟩ := hrel
    cases gk with
    | zero =>
      obtain rfl : i = C.size := by omega
      have hnx := fun ty => run_next_end (P := Tryd.prog) w C C.size ty (by omega)
      go_wp2
      go_ret
      exact ⟨rfl, (Below.refl _ _).alloc (Nat.le_refl _) _⟩
    | succ g =>
      have hlt : i < C.size := by omega
      have hnx := fun ty => run_next_ascii (P := Tryd.prog) w C i ty hlt (set_get HA.out i hlt)
      obtain ⟨z, hz⟩ : ∃ z : Int, ((C[i]'hlt).toNat : Int) = z := ⟨_, rfl⟩
      have hz2 : z < 128 := by have := set_get HA.out i hlt; omega
      rw [hz] at hnx
      clear hz
      have hne : (z == (65533 : Int)) = false := beq_eq_false_iff_ne.2 (by omega)
      have hne2 : decide (z = (65533 : Int)) = false := decide_eq_false (by omega)
      go_wp2
      go_roundg g
      case measure => omega
      case rel => exact ⟨i + 1, by omega, rfl⟩
set_option maxHeartbeats 2000000 in
set_option maxRecDepth 1000000 in
theorem indexRune_far {C : ByteArray} (hA : AsciiSet C) (r : Int) (w : World) (h0 : 128 ≤ r) (h1 : r ≤ 2147483647) (h2 : r ≠ 65533) :
    Calls Tryd.prog 44 #[.string C, .int .i32 r] w fun e w' => e = .returned (.int .i64 (-1)) ∧ Below w.heap.size w w' := by
  obtain ⟨l, hl, l1, l2, l3⟩ := encode_hi r h0
  obtain ⟨E, hE⟩ : ∃ E, Utf8.encode r = E := ⟨_, rfl⟩
  rw [hE] at hl
  have hsz : E.size = l.length := by rw [← hl]; exact Lib.size_eq E
  have d0 : decide ((0 : Int) ≤ r) = true := decide_eq_true (by omega)
  have d1 : decide (r < (128 : Int)) = false := decide_eq_false (by omega)
  have d2 : (r == (65533 : Int)) = false := beq_eq_false_iff_ne.2 h2
  obtain ⟨b, hb⟩ : ∃ b : UInt8, l.getD (l.length - 1) 0 = b := ⟨_, rfl⟩
  rw [hb] at l3
  have hc0 : (l.length : Int) - 1 = ((l.length - 1 : Nat) : Int) := by omega
  have hix : ∀ w, (Instr.index 9 (.string E) (.int .i64 ((l.length - 1 : Nat) : Int))).run Tryd.prog w = .ok (.int .u8 (b.toNat : Int)) w := by
    intro w
    have hlt : l.length - 1 < E.size := by omega
    have hget : E[l.length - 1] = b := by
      have h := Lib.data_getElem? E (l.length - 1) hlt
      rw [hl] at h
      rw [← hb, List.getD_eq_getElem?_getD, h]; rfl
    rw [run_index_string w 9 E .i64 _ Tryd.underlying9]
    have hw1 : (0 : Int) ≤ ((l.length - 1 : Nat) : Int) := by omega
    simp [hw1, hlt, hget]
  have hsx : l.length - 1 < C.size → ∃ c : Int, c < 128 ∧ ∀ w, (Instr.index 9 (.string C) (.int .i64 ((l.length - 1 : Nat) : Int))).run Tryd.prog w = .ok (.int .u8 c) w := by
    generalize l.length - 1 = n
    intro h
    refine ⟨((C[n]'h).toNat : Int), by have := set_get hA n h; omega, fun w => ?_⟩
    rw [run_index_string w 9 C .i64 _ Tryd.underlying9]
    have hw1 : (0 : Int) ≤ (n : Int) := by omega
    simp [hw1, h]
  have HA : Aside (AsciiSet C) := hA
  clear hA
  have hcv : ∀ w, (convert 21 9 (.int .i32 r)).run Tryd.prog w = .ok (.string E) w := by
    intro w; rw [run_convert_int_string w _ _ .i32 r (by kernel_rfl) Tryd.underlying9, hE]
  cases hv : Lib.validRune r with
  | false =>
    go_enter Tryd.func44, Tryd.ntmps44
    go_wp2_with (at_builtin; refine stopAt ?_)
    refine (Tryd.utf8_ValidRune _ _).mono ?_
    rintro e w' ⟨rfl, rfl⟩
    rw [hv]
    go_wp2
    go_ret
    exact ⟨rfl, Below.refl _ _⟩
  | true =>
    go_enter Tryd.func44, Tryd.ntmps44
    go_wp2_with (at_builtin; refine stopAt ?_)
    refine (Tryd.utf8_ValidRune _ _).mono ?_
    rintro e w' ⟨rfl, rfl⟩
    rw [hv]
    go_wp2
    apply wp_scope_straight
    go_wp2
    obtain ⟨n, hn⟩ : ∃ n, l.length - 1 = n := ⟨_, rfl⟩
    rw [hn] at hix hsx
    rw [hn]
    have hn4 : n < 4 := by omega
    clear hl hsz hcv hc0 d0 d1 d2 hE hb
    go_loopw [9] (fun i wr => i = .int .i64 (n : Int) ∧ wr = w') (fun _ _ => 0)
    case atStart => exact ⟨rfl, rfl⟩
    case round =>
      obtain ⟨rfl, rfl⟩ := hrel
      by_cases h3 : n < C.size
      · have d3 : decide ((n : Int) < (C.size : Int)) = true := decide_eq_true (by omega)
        obtain ⟨c, hcl, hcx⟩ := hsx h3
        have hne : (c != (b.toNat : Int)) = true := by simp; omega
        have hib := ibS HA.out n b l3
        have hw1 : IntKind.i64.wrap ((n : Int) + 1) = (n : Int) + 1 := IntWalk.i64_in _ (by omega)
        have hn0 : (0 : Int) ≤ (n : Int) + 1 := by omega
        have hn1 : ((n : Int) + 1).toNat = n + 1 := by omega
        have hn2 : (n : Int) + 1 ≤ (C.size : Int) := by omega
        have hsl : ∀ w, (Instr.slice 9 (.string C) (some (.int .i64 ((n : Int) + 1))) none none).run Tryd.prog w = .ok (.string (C.extract (n + 1) C.size)) w := by
          intro w; rw [run_slice_string_l w _ _ Tryd.underlying9 .i64 _ hn0 hn2, hn1]
        go_wp2
        apply wp_scope_straight
        go_wp2
        go_quiet (fail)
        go_wp2
        go_quiet (exact (Tryd.strings_IndexByte _ _ _).mono fun e w' ⟨h1, h2⟩ => ⟨h1, _, h2⟩)
        go_wp2
        repeat (first | rw [Exit.noGoto_ret] | rw [show ∀ (k : Nat) (Q : Exit → Act → World → Prop), Exit.inBlock k Q .ret = Q .ret from fun _ _ => rfl])
        simp +zetaDelta only [Exit.noGoto_ret, Exit.inBlock, Exit.then]
        go_ret
        exact ⟨rfl, belowN (Below.refl _ _) _⟩
      · have d3 : decide ((n : Int) < (C.size : Int)) = false := decide_eq_false (by omega)
        go_wp2
        simp only [Exit.noGoto_ret]
        go_ret
        exact ⟨rfl, Below.refl _ _⟩
theorem indexRune_hi {C : ByteArray} (hA : AsciiSet C) (r : Int) (w : World) (h0 : 128 ≤ r) (h1 : r ≤ 2147483647) :
    Calls Tryd.prog 44 #[.string C, .int .i32 r] w fun e w' => e = .returned (.int .i64 (-1)) ∧ Below w.heap.size w w' := by
  by_cases h2 : r = 65533
  · subst h2; exact indexRune_err hA w
  · exact indexRune_far hA r w h0 h1 h2
theorem decode_span (s : ByteArray) (pos : Nat) (h : pos < s.size) (ha : 128 ≤ (s[pos]'h).toNat) : ∀ k, k < (Utf8.decode s pos).2 → pos + k < s.size ∧ 128 ≤ (s.get! (pos + k)).toNat := by
  have h0 : pos + 0 < s.size ∧ 128 ≤ (s.get! (pos + 0)).toNat := ⟨h, by rw [get_at s pos h]; exact ha⟩
  have hc : ∀ k, (decide (pos + k < s.size) && (s.get! (pos + k)).toNat / 64 == 2) = true → pos + k < s.size ∧ 128 ≤ (s.get! (pos + k)).toNat := by
    intro k hk
    simp only [Bool.and_eq_true, decide_eq_true_eq, beq_iff_eq] at hk
    exact ⟨hk.1, by omega⟩
  have hn : ¬ (s[pos]'h).toNat < 128 := by omega
  have key : ∀ n, n = (Utf8.decode s pos).2 → ∀ k, k < n → pos + k < s.size ∧ 128 ≤ (s.get! (pos + k)).toNat := by
    intro n
    simp only [Utf8.decode, get_at s pos h, hn, if_false]
    repeat' split
    all_goals (
      rintro rfl k hk
      simp only [Bool.and_eq_true] at *
      match k, hk with
      | 0, _ => exact h0
      | 1, _ => first | omega | exact hc 1 (by simp_all)
      | 2, _ => first | omega | exact hc 2 (by simp_all)
      | 3, _ => first | omega | exact hc 3 (by simp_all)
      | k + 4, _ => omega)
  exact key _ rfl
theorem getB (s : ByteArray) (j : Nat) (h : j < s.size) : s.data.toList[j]? = some (s.get! j) := by
  rw [Lib.data_getElem? s j h]
  congr 1
  have := get_at s j h
  rw [Nat.add_zero] at this
  exact this.symm
theorem run_next_at (wx : World) (k : Nat) (s : ByteArray) (pos : Nat) (ty : TypeId) (hk : wx.heap[k]? = some (.stringIter s pos)) (h : pos < s.size) :
    (Instr.next (.pointer (some ⟨k, 0, none⟩)) true ty).run Tryd.prog wx =
      .ok (.tuple #[.bool true, .int .i64 pos, .int .i32 (Utf8.decode s pos).1]) { wx with heap := wx.heap.setIfInBounds k (.stringIter s (pos + (Utf8.decode s pos).2)) } := by
  simp only [Instr.next, getObj, setObj, Sem.run_bind, Sem.run, hk, Result.andThen, h, if_true]
  simp [goInt]
theorem run_next_stop (wx : World) (k : Nat) (s : ByteArray) (pos : Nat) (ty : TypeId) (hk : wx.heap[k]? = some (.stringIter s pos)) (h : ¬ pos < s.size) :
    (Instr.next (.pointer (some ⟨k, 0, none⟩)) true ty).run Tryd.prog wx = .ok (.tuple #[.bool false]) wx := by
  simp [Instr.next, getObj, Sem.run, hk, h]
theorem below_iter {w wx : World} {k : Nat} {o : Obj} (h : Below w.heap.size w wx) (hk : w.heap.size ≤ k) : Below w.heap.size w { wx with heap := wx.heap.setIfInBounds k o } :=
  ⟨h.os, h.tape, h.output, by simpa using h.size, fun j hj => by rw [← h.block j hj]; simp [Array.getElem?_setIfInBounds, show k ≠ j by omega]⟩
set_option maxHeartbeats 8000000 in
set_option maxRecDepth 1000000 in
theorem indexAny_short {C : ByteArray} (hA : AsciiSet C) (s : ByteArray) (w : World) (h8 : s.size ≤ 8) :
    Calls Tryd.prog 33 #[.string s, .string C] w fun e w' => e = .returned (.int .i64 (Lib.indexAny s.data.toList C.data.toList)) ∧ Below w.heap.size w w' := by
  have htwo := hA.two
  have hemp : C.toList.isEmpty = false := by
    rw [Lib.toList_data]
    cases h : C.data.toList with
    | nil => have := Lib.size_eq C; rw [h, List.length_nil] at this; omega
    | cons => rfl
  have hn1 : ((C.size : Int) == 1) = false := by
    rw [beq_eq_false_iff_ne]
    intro h
    have h : (C.size : Int) = 1 := h
    omega
  have HA : Aside (AsciiSet C) := hA
  clear hA htwo
  have h8z : decide ((8 : Int) < (s.size : Int)) = false := decide_eq_false (by omega)
  go_enter Tryd.func33, Tryd.ntmps33
  go_wp2_with (at_builtin; refine stopAt ?_)
  refine (Tryd.strings_shouldUseASCIISet _ _).mono ?_
  rintro e w' ⟨rfl, rfl⟩
  rw [h8z]
  go_wp2
  have hlen : s.data.toList.length = s.size := (Lib.size_eq s).symm
  go_loopg [9, 10] s.size (fun g _ _ wx => ∃ p : Nat, p + g = s.size ∧ Below w'.heap.size w' wx ∧ wx.heap[w'.heap.size]? = some (.stringIter s p) ∧ Lib.NoAny s.data.toList C.data.toList p)
  case atStart => exact ⟨0, by omega, (Below.refl _ _).alloc (Nat.le_refl _) _, World.iter_heap _ _ _, Lib.NoAny.zero _ _⟩
  case round =>
    obtain ⟨p, hps, hbel, hit, hno⟩ := hrel
    have HN : Aside (Lib.NoAny s.data.toList C.data.toList p) := hno
    have HB : Aside (Below w'.heap.size w' wr) := hbel
    clear hno hbel
    have hlb : w'.heap.size < wr.heap.size := (Array.getElem?_eq_some_iff.1 hit).1
    by_cases hlt : p < s.size
    · have hnx := fun ty => run_next_at wr w'.heap.size s p ty hit hlt
      obtain ⟨x, hx⟩ : ∃ x : UInt8, s[p]'hlt = x := ⟨_, rfl⟩
      have hxl : s.data.toList[p]? = some x := by rw [← hx]; exact Lib.data_getElem? s p hlt
      by_cases hx128 : x.toNat < 128
      · have hd := decode_ascii s p hlt (by rw [hx]; exact hx128)
        rw [hx] at hd
        rw [hd] at hnx
        obtain ⟨wn, hwn⟩ : ∃ wn : World, { wr with heap := wr.heap.setIfInBounds w'.heap.size (.stringIter s (p + 1)) } = wn := ⟨_, rfl⟩
        have Hn : Aside (Below w'.heap.size w' wn ∧ wn.heap[w'.heap.size]? = some (.stringIter s (p + 1))) := by
          rw [← hwn]; exact ⟨below_iter HB.out (Nat.le_refl _), by simp [hlb]⟩
        simp only [hwn] at hnx
        have hcon := Lib.contains_iff_indexByte C.data.toList x
        have hback : ((x.toNat : Int)).toNat.toUInt8 = x := by simp
        have Hx : Aside (s.data.toList[p]? = some x) := hxl
        clear hxl hx hd
        cases hin : C.data.toList.contains x with
        | false =>
          rw [hin] at hcon
          have hlt0 : decide ((0 : Int) ≤ Lib.indexByte C.data.toList x) = false := hcon.symm
          clear hcon
          go_wp2_with (at_builtin; refine stopAt ?_)
          refine (Tryd.strings_IndexRune_ascii _ _ _ (by omega) (by omega)).mono ?_
          rintro e w3 ⟨rfl, rfl⟩
          rw [hback]
          go_wp2
          obtain ⟨g, rfl⟩ : ∃ g, gk = g + 1 := ⟨gk - 1, by omega⟩
          go_roundg g
          case measure => omega
          case rel => exact ⟨p + 1, by omega, Hn.out.1, Hn.out.2, HN.out.succ Hx.out hin⟩
        | true =>
          rw [hin] at hcon
          have hlt0 : decide ((0 : Int) ≤ Lib.indexByte C.data.toList x) = true := hcon.symm
          clear hcon
          go_wp2_with (at_builtin; refine stopAt ?_)
          refine (Tryd.strings_IndexRune_ascii _ _ _ (by omega) (by omega)).mono ?_
          rintro e w3 ⟨rfl, rfl⟩
          rw [hback]
          go_wp2
          go_ret
          exact ⟨by rw [Lib.indexAny_hit HN.out Hx.out hin]; rfl, Hn.out.1⟩
      · have hd := decode_high s p hlt (by rw [hx]; omega)
        have hsp := decode_span s p hlt (by rw [hx]; omega)
        have hle := decode_le s p
        obtain ⟨⟨c, n⟩, hcn⟩ : ∃ cn, Utf8.decode s p = cn := ⟨_, rfl⟩
        rw [hcn] at hnx hd hsp hle
        simp only at hnx hd hsp hle
        obtain ⟨wn, hwn⟩ : ∃ wn : World, { wr with heap := wr.heap.setIfInBounds w'.heap.size (.stringIter s (p + n)) } = wn := ⟨_, rfl⟩
        have Hn : Aside (Below w'.heap.size w' wn ∧ wn.heap[w'.heap.size]? = some (.stringIter s (p + n))) := by
          rw [← hwn]; exact ⟨below_iter HB.out (Nat.le_refl _), by simp [hlb]⟩
        simp only [hwn] at hnx
        have HS : Aside (∀ k, k < n → p + k < s.size ∧ 128 ≤ (s.get! (p + k)).toNat) := hsp
        clear hsp hcn hxl hx
        go_wp2_with (at_builtin; refine stopAt ?_)
        refine (indexRune_hi HA.out (c : Int) _ (by omega) (by omega)).mono ?_
        rintro e w3 ⟨rfl, hb3⟩
        have hp : p + n ≤ s.size := by have := (HS.out (n - 1) (by omega)).1; omega
        have Hn3 : Aside (Below w'.heap.size w' w3 ∧ w3.heap[w'.heap.size]? = some (.stringIter s (p + n))) := by
          obtain ⟨h1, h2⟩ := Hn.out
          have h3 : w'.heap.size < wn.heap.size := (Array.getElem?_eq_some_iff.1 h2).1
          exact ⟨h1.trans ⟨hb3.os, hb3.tape, hb3.output, hb3.size, fun k hk => hb3.block k (by omega)⟩, by rw [hb3.block _ h3]; exact h2⟩
        clear hb3
        go_wp2
        obtain ⟨g, hg⟩ : ∃ g, p + n + g = s.size := ⟨s.size - (p + n), by omega⟩
        go_roundg g
        case measure => omega
        case rel =>
          refine ⟨p + n, by omega, Hn3.out.1, Hn3.out.2, fun j b hj hb => ?_⟩
          rcases Nat.lt_or_ge j p with h | h
          · exact HN.out j b h hb
          · obtain ⟨k, rfl⟩ : ∃ k, j = p + k := ⟨j - p, by omega⟩
            obtain ⟨k1, k2⟩ := HS.out k (by omega)
            rw [getB s _ k1] at hb
            injection hb with hb
            subst hb
            generalize s.get! (p + k) = b at *
            exact set_hi HA.out b k2
    · have hnx := fun ty => run_next_stop wr w'.heap.size s p ty hit hlt
      obtain rfl : p = s.size := by omega
      go_wp2
      go_ret
      exact ⟨by rw [Lib.indexAny_none (by rw [← Lib.size_eq]; exact HN.out)]; rfl, HB.out⟩
end Go.Proofs.YtakojeefilpibaaDoor
namespace Go.Proofs.YtakojeefilpibaaDoor
set_option linter.all false
open Go.RowKit
open Go.Lib (index hasPrefix trimPrefix cut indexAny)
def idxAnyS : Spec := fun xs hp => match xs, hp with
  | [.str s, .str p], [] => some ⟨.int .i64 (indexAny s p), [], asciiB p = true ∧ s.length < 4294967281⟩
  | _, _ => none
theorem idxAny_ok : FnOk Tryd.prog 33 idxAnyS := by
  refine fnok_of_calls fun xs0 hp r hs hp' => ?_
  unfold idxAnyS at hs
  split at hs
  · rename_i s p
    injection hs with hs; subst hs
    obtain ⟨p1, p2⟩ := hp'
    have hA := asciiSet_of p1
    refine ⟨rfl, rfl, fun w S ρ args hS ha => ?_⟩
    obtain ⟨v, vs, rfl, hv, hr⟩ := ha.get _ _ rfl
    obtain ⟨u, us, rfl, hu, hr⟩ := hr.get _ _ rfl
    obtain rfl := hr.none
    rw [hv.str, hu.str]
    have hs0 : (⟨s.toArray⟩ : ByteArray).size = s.length := by rw [Lib.size_eq]
    have hc0 : (⟨p.toArray⟩ : ByteArray).size = p.length := by rw [Lib.size_eq]
    have h2 := hA.two
    have h3 := hA.few
    by_cases h8 : s.length ≤ 8
    · refine (indexAny_short hA ⟨s.toArray⟩ w (by rw [hs0]; exact h8)).mono ?_
      rintro e w' ⟨rfl, hb⟩
      exact ⟨_, rfl, hb, fun _ _ _ => Vl.int' _ _⟩
    · refine (Tryd.strings_IndexAny_long (fun w => by kernel_rfl) ⟨s.toArray⟩ ⟨p.toArray⟩ w (by omega) (by rw [hs0]; omega) (by rw [hs0]; exact p2) (by omega) (fun j b hb => hA.low b (List.mem_of_getElem? hb))).mono ?_
      rintro e w' ⟨rfl, rfl⟩
      exact ⟨_, rfl, ((Below.refl _ _).alloc (Nat.le_refl _) _).alloc (by simp) _, fun _ _ _ => Vl.int' _ _⟩
  · cases hs
end Go.Proofs.YtakojeefilpibaaDoor
namespace Go.Proofs.YtakojeefilpibaaDoor
set_option linter.all false
open Go.RowKit
open Go.Lib (index hasPrefix trimPrefix cut indexAny)
def idxAny3S : Spec := fun xs hp => match xs, hp with
  | [.str s, .str p], [] => some ⟨.int .i64 (indexAny s p), [], p = [0, 10, 13] ∧ s.length < 4294967281⟩
  | _, _ => none
theorem idxAny3_ok : FnOk Tryd.prog 33 idxAny3S := by
  refine idxAny_ok.imp fun xs hp r hs hp' => ?_
  unfold idxAny3S at hs
  split at hs
  · injection hs with hs; subst hs
    obtain ⟨rfl, p2⟩ := hp'
    exact ⟨_, rfl, ⟨by decide, p2⟩, rfl, rfl⟩
  · cases hs
end Go.Proofs.YtakojeefilpibaaDoor
namespace Go.Proofs.YtakojeefilpibaaDoor
set_option linter.all false
open Go.RowKit
open Go.Lib (index hasPrefix trimPrefix cut indexAny hasSuffix trimSuffix)
def hasSufS : Spec := fun xs hp => match xs, hp with
  | [.str s, .str p], [] => some ⟨.bool (hasSuffix s p), [], s.length ≤ 9223372036854775807⟩
  | _, _ => none
theorem hasSuf_ok : FnOk Tryd.prog 10 hasSufS := by
  refine fnok_of_calls fun xs0 hp r hs hp' => ?_
  unfold hasSufS at hs
  split at hs
  · rename_i s p
    injection hs with hs; subst hs
    refine ⟨rfl, rfl, fun w S ρ args hS ha => ?_⟩
    obtain ⟨v, vs, rfl, hv, hr⟩ := ha.get _ _ rfl
    obtain ⟨u, us, rfl, hu, hr⟩ := hr.get _ _ rfl
    obtain rfl := hr.none
    rw [hv.str, hu.str]
    refine (Tryd.strings_HasSuffix ⟨s.toArray⟩ ⟨p.toArray⟩ w (by have h : s.length ≤ 9223372036854775807 := hp'; simpa [ByteArray.size] using h)).mono ?_
    rintro e w' ⟨rfl, rfl⟩
    exact ⟨_, rfl, Below.refl _ _, fun _ _ _ => Vl.bool' _⟩
  · cases hs
def cutSufS : Spec := fun xs hp => match xs, hp with
  | [.str s, .str p], [] => some ⟨.tup [.str (trimSuffix s p), .bool (hasSuffix s p)], [], s.length ≤ 9223372036854775807⟩
  | _, _ => none
theorem cutSuf_ok : FnOk Tryd.prog 14 cutSufS := by
  refine fnok_of_calls fun xs0 hp r hs hp' => ?_
  unfold cutSufS at hs
  split at hs
  · rename_i s p
    injection hs with hs; subst hs
    refine ⟨rfl, rfl, fun w S ρ args hS ha => ?_⟩
    obtain ⟨v, vs, rfl, hv, hr⟩ := ha.get _ _ rfl
    obtain ⟨u, us, rfl, hu, hr⟩ := hr.get _ _ rfl
    obtain rfl := hr.none
    rw [hv.str, hu.str]
    refine (Tryd.strings_CutSuffix ⟨s.toArray⟩ ⟨p.toArray⟩ w (by have h : s.length ≤ 9223372036854775807 := hp'; simpa [ByteArray.size] using h)).mono ?_
    rintro e w' ⟨rfl, rfl⟩
    exact ⟨_, rfl, Below.refl _ _, fun _ _ _ => Vl.tup2 (Vl.str' _) (Vl.bool' _)⟩
  · cases hs
def trimSufS : Spec := fun xs hp => match xs, hp with
  | [.str s, .str p], [] => some ⟨.str (trimSuffix s p), [], s.length ≤ 9223372036854775807⟩
  | _, _ => none
theorem trimSuf_ok : FnOk Tryd.prog 16 trimSufS := by
  refine fnok_of_calls fun xs0 hp r hs hp' => ?_
  unfold trimSufS at hs
  split at hs
  · rename_i s p
    injection hs with hs; subst hs
    refine ⟨rfl, rfl, fun w S ρ args hS ha => ?_⟩
    obtain ⟨v, vs, rfl, hv, hr⟩ := ha.get _ _ rfl
    obtain ⟨u, us, rfl, hu, hr⟩ := hr.get _ _ rfl
    obtain rfl := hr.none
    rw [hv.str, hu.str]
    refine (Tryd.strings_TrimSuffix ⟨s.toArray⟩ ⟨p.toArray⟩ w (by have h : s.length ≤ 9223372036854775807 := hp'; simpa [ByteArray.size] using h)).mono ?_
    rintro e w' ⟨rfl, rfl⟩
    exact ⟨_, rfl, Below.refl _ _, fun _ _ _ => Vl.str' _⟩
  · cases hs
def idxByteS : Spec := fun xs hp => match xs, hp with
  | [.str s, .int .u8 c], [] => some ⟨.int .i64 (Lib.indexByte s c.toNat.toUInt8), [], True⟩
  | _, _ => none
theorem idxByte_ok : FnOk Tryd.prog 31 idxByteS := by
  refine fnok_of_calls fun xs0 hp r hs hp' => ?_
  unfold idxByteS at hs
  split at hs
  · rename_i s c
    injection hs with hs; subst hs
    refine ⟨rfl, rfl, fun w S ρ args hS ha => ?_⟩
    obtain ⟨v, vs, rfl, hv, hr⟩ := ha.get _ _ rfl
    obtain ⟨u, us, rfl, hu, hr⟩ := hr.get _ _ rfl
    obtain rfl := hr.none
    rw [hv.str, hu.int]
    refine (Tryd.strings_IndexByte ⟨s.toArray⟩ c w).mono ?_
    rintro e w' ⟨rfl, rfl⟩
    exact ⟨_, rfl, Below.refl _ _, fun _ _ _ => Vl.int' _ _⟩
  · cases hs
end Go.Proofs.YtakojeefilpibaaDoor
namespace Go.Proofs.YtakojeefilpibaaDoor
set_option linter.all false
open Go.RowKit
theorem getD_map {α : Type} (f : α → AV) (l : List α) (d : α) (z : AV) {i : Nat} (h : i < l.length) : (l.map f).getD i z = f (l.getD i d) := by
  simp [List.getD_eq_getElem?_getD, List.getElem?_map, List.getElem?_eq_getElem h]
theorem flatMap_take {α : Type} (f : α → List UInt8) (l : List α) {i : Nat} (h : i < l.length) : (l.take i).flatMap f ++ f l[i] = (l.take (i + 1)).flatMap f := by
  rw [List.take_add_one, List.getElem?_eq_getElem h, Option.toList_some, List.flatMap_append, List.flatMap_cons, List.flatMap_nil, List.append_nil]
theorem flatMap_take_le {α : Type} (f : α → List UInt8) (l : List α) (i : Nat) : ((l.take i).flatMap f).length ≤ (l.flatMap f).length := by
  have : l.flatMap f = (l.take i).flatMap f ++ (l.drop i).flatMap f := by rw [← List.flatMap_append, List.take_append_drop]
  rw [this, List.length_append]; omega
end Go.Proofs.YtakojeefilpibaaDoor
namespace Go.Proofs.YtakojeefilpibaaDoor
set_option linter.all false
open Go.RowKit
open Go.Lib (indexAny)
def c_nrightc : ACode := (.seq (.reg none [⟨(some 2), (.mv (.c (.bool false))), none⟩]) (.seq (.reg none [⟨(some 3), (.mv (.t 0)), none⟩, ⟨(some 4), (.bin .eql (.t 3) (.c (.str []))), none⟩, ⟨(some 5), (.mv (.t 4)), none⟩, ⟨(some 6), (.mv (.t 0)), (some (5, false))⟩, ⟨(some 7), (.bin .eql (.t 6) (.c (.str [46]))), (some (5, false))⟩, ⟨(some 8), (.pick (.t 5) (.c (.bool true)) (.t 7)), none⟩, ⟨(some 9), (.mv (.t 8)), none⟩, ⟨(some 10), (.mv (.t 0)), (some (9, false))⟩, ⟨(some 11), (.bin .eql (.t 10) (.c (.str [46, 46]))), (some (9, false))⟩, ⟨(some 12), (.pick (.t 9) (.c (.bool true)) (.t 11)), none⟩, ⟨(some 2), (.mv (.t 12)), none⟩]) .ret))
def r_nrightc : List ARes := [(.t 2)]
theorem s_nrightc : slimF Tryd.prog Tryd.f19 = some (c_nrightc, r_nrightc) := by kernel_rfl
def badS : Spec := fun xs hp => match xs, hp with
  | [.str q], [] => some ⟨.bool (badP q), [], True⟩
  | _, _ => none
theorem bad_ok : FnOk Tryd.prog 19 badS := by
  refine fn_slim2 Tryd.func19 s_nrightc (Φ := phiL []) phi_nil ?_
  intro xs hp r hs hp'
  unfold badS at hs
  split at hs
  · injection hs with hs; subst hs
    rename_i q
    refine ⟨len_le (by kernel_rfl), ?_⟩
    rcases Classical.em (q = []) with h0 | h0
    · subst h0
      simp only [c_nrightc, r_nrightc, decide_true, go_sem, Nat.reduceDiv, Nat.reduceMod, ↓reduceIte, Nat.reduceEqDiff, Nat.reduceBEq, Nat.reduceSub, Nat.reduceLT, Nat.reduceAdd, Nat.reduceLeDiff, reduceCtorEq, Int.reduceEq, Int.reduceNe, Int.reduceLT, Int.reduceLE, Int.reduceToNat]
      simp [badP]
    · have d0 : decide (q = []) = false := decide_eq_false h0
      rcases Classical.em (q = [46]) with h1 | h1
      · have d1 : decide (q = [46]) = true := decide_eq_true h1
        simp only [c_nrightc, r_nrightc, d0, d1, go_sem, Nat.reduceDiv, Nat.reduceMod, ↓reduceIte, Nat.reduceEqDiff, Nat.reduceBEq, Nat.reduceSub, Nat.reduceLT, Nat.reduceAdd, Nat.reduceLeDiff, reduceCtorEq, Int.reduceEq, Int.reduceNe, Int.reduceLT, Int.reduceLE, Int.reduceToNat]
        simp [badP, d0, d1]
      · have d1 : decide (q = [46]) = false := decide_eq_false h1
        have e : badP q = decide (q = [46, 46]) := by unfold badP; rw [d0, d1]; rfl
        simp only [c_nrightc, r_nrightc, d0, d1, e, go_sem, Nat.reduceDiv, Nat.reduceMod, ↓reduceIte, Nat.reduceEqDiff, Nat.reduceBEq, Nat.reduceSub, Nat.reduceLT, Nat.reduceAdd, Nat.reduceLeDiff, reduceCtorEq, Int.reduceEq, Int.reduceNe, Int.reduceLT, Int.reduceLE, Int.reduceToNat]
  · cases hs
def b_ifs_0 : ACode := (.seq (.reg none [⟨(some 9), (.bin .lss (.t 8) (.t 7)), none⟩]) (.seq (.cond (.t 9) .skip (.exit 0)) (.seq (.block 1 (.seq (.reg none [⟨(some 10), (.mv (.t 8)), none⟩, ⟨(some 5), (.mv (.t 10)), none⟩]) (.seq (.reg none [⟨(some 11), (.mv (.t 1)), none⟩, ⟨(some 12), (.mv (.t 0)), none⟩, ⟨(some 13), (.mv (.t 5)), none⟩, ⟨(some 14), (.ia 1 (.str []) (.t 12) (.t 13)), none⟩, ⟨(some 15), (.ld (.one (.str [])) (.t 14)), none⟩, ⟨(some 16), (.callv (.t 11) [(.t 15)]), none⟩]) (.cond (.t 16) (.seq (.reg none [⟨(some 17), (.mv (.t 5)), none⟩, ⟨(some 4), (.mv (.t 17)), none⟩]) .ret) .skip)))) (.reg none [⟨(some 18), (.bin .add (.t 8) (.c (.int .i64 1))), none⟩, ⟨(some 8), (.mv (.t 18)), none⟩]))))
def t_ifs_0 : ACode := (.seq (.reg none [⟨(some 4), (.mv (.c (.int .i64 (-1)))), none⟩]) .ret)
def c_ifs : ACode := (.seq (.reg none [⟨(some 4), (.mv (.c (.int .i64 0))), none⟩]) (.seq (.seq (.reg none [⟨(some 6), (.mv (.t 0)), none⟩, ⟨(some 7), (.len none false (.t 6)), none⟩, ⟨(some 8), (.mv (.c (.int .i64 0))), none⟩]) (.block 0 (.loop b_ifs_0))) t_ifs_0))
def r_ifs : List ARes := [(.t 4)]
theorem s_ifs : slimF Tryd.prog Tryd.f34 = some (c_ifs, r_ifs) := by kernel_rfl
def fiB (ps : List (List UInt8)) : Int := if ps.any badP then (ps.findIdx badP : Int) else -1
def ifBadS : Spec := fun xs hp => match xs, hp with
  | [.sl 1 ps, .fn (.func g) [] []], [] => some ⟨.int .i64 (fiB (ps.map unS)), [], g = 19 ∧ ps = (ps.map unS).map AV.str ∧ ps.length ≤ 1000000000000⟩
  | _, _ => none
theorem ifBad_ok : FnOk Tryd.prog 34 ifBadS := by
  refine fn_slim Tryd.func34 s_ifs (Φ := phiL [(19, [], badS)]) (phi_cons bad_ok (by kernel_rfl) phi_nil) ?_
  intro xs hp r hs hp'
  unfold ifBadS at hs
  split at hs
  · injection hs with hs; subst hs
    rename_i qs g
    refine ⟨len_le (by kernel_rfl), ?_⟩
    obtain ⟨rfl, p2, p3⟩ := hp'
    generalize qs.map unS = ps at *
    subst p2
    rw [List.length_map] at p3
    simp only [c_ifs, r_ifs, awp_scope, noG_n, noG_r, noG_x, awp_skip, awp_reg, awp_draw, awp_seq, awp_cond, awp_block, awp_loop, awp_exit, awp_ret, arun_nil, arun_op, arun_gt, arun_gf, arunD_nil, arunD_op, arunD_gt, arunD_gf, aq_some, isB_t, isB_u, isB_f, isB_g, isB_p, isU_t, isU_b, ifB_t, ifB_f, thenQ_n, thenQ_x, thenQ_r, inQ_n, inQ_r, inQ_x, retQ_n, retQ_r, exD, AOp.isH, keepN, preB, avalP, pureR, astep, stV, stN, stE, stC, aval, anew, aElems, frzS, frzH, aeff, slots, aret, ares, aress, AV.isTup, eqFs, aEqS, ofC_i, ofC_b, ofC_s, ofC_U, getD_mapU, getD_Bs, Bs_len, Int.toNat_natCast, opd, pt, tk, subp, rdP, Rt.size, Rt.isAgg, Rt.zv, aBin, aInt, aStr, arI, aUn, aToInt, aToStr, aIdxS, zv, aIdxA, aIa, aIaA, aFa, aLd, aFld, pparts, aLo, aHi, cutL, aSlS, aSl, aExt, aNck, aNilc, AV.isStr, aLen, AV.one, AV.multi, pureB, szOk, psz, drp, spl, aEqB, aEqA, aMm, aMkfn, aMkif, aBuild, toV, aBuildA, wrP, unparts, view, nilS, St.ev, lk, St.put, St.pin, St.pinV, acall0, acall1, acall2, acall3, bor, bor0, bor1, phiL_nil, phiL_at, tau, lentO, okIds, flatC, flatB, flatOs, flatO, flatPs, place, setAll_nil, setAll_cons, nodupB, renObj, closeIds, addNew, idsOf, idsObj, posOf, lenOk_0, lenOk_1, lenOk_2, lenOk_3, lenOk_4, lenOk_8, ↓reduceIte, Option.isSome_none, Option.isSome_some, Bool.or_true, Bool.true_or,  Nat.reduceEqDiff, Nat.reduceBEq, Nat.reduceSub, Nat.reduceLT, beq_self_eq_true, List.map, List.set, List.map_cons, List.map_nil, List.flatMap_cons, List.flatMap_nil, List.flatten_cons, List.flatten_nil, true_and, and_true, List.length_cons, List.length_nil, Nat.reduceAdd, Nat.reduceLeDiff, List.nil_append, List.cons_append, List.append_nil, Option.map, mapO, ren, kp, kpI, ent, nilG, Option.bind, List.range, List.range.loop, List.getElem?_cons_zero, List.getElem?_cons_succ, List.getElem?_nil, List.getD_cons_zero, List.getD_cons_succ, List.drop_zero, List.drop_succ_cons, List.drop_nil, List.take_zero, List.take_succ_cons, List.all_cons, List.all_nil, List.isEmpty_nil, List.isEmpty_cons, Bool.and_true, Bool.true_and, Bool.not_true, Bool.not_false, List.contains_nil, reduceCtorEq, List.contains_cons, Bool.or_false, Bool.false_or, eq_self, forall_const, false_implies, Bool.false_eq_true, Nat.le_refl, List.length_map, List.length_set, List.length_replicate, and_self, implies_true]
    refine loop_at [] [0, 1, 7, 8] [] (fun i : Nat => ⟨[(0, .sl 1 (ps.map AV.str)), (1, .fn (.func 19) [] []), (7, .int .i64 (ps.length : Int)), (8, .int .i64 (i : Int))], []⟩) (fun i => i ≤ ps.findIdx badP) (fun i => ps.length - i) 0 rfl (by omega) ⟨rfl, rfl⟩ (fun i hi => ?_)
    have hle := List.findIdx_le_length (xs := ps) (p := badP)
    by_cases hil : i < ps.length
    · have c1 : decide ((i : Int) < (ps.length : Int)) = true := decide_eq_true (by omega)
      have hget : (ps.map AV.str).getD i (.str []) = .str (ps.getD i []) := by
        simp [List.getD_eq_getElem?_getD, List.getElem?_map, List.getElem?_eq_getElem hil]
      have hga : ps.getD i [] = ps[i] := by simp [List.getD_eq_getElem?_getD, List.getElem?_eq_getElem hil]
      simp only [b_ifs_0, r_ifs, t_ifs_0, badS, c1, hget, Int.toNat_natCast, awp_scope, noG_n, noG_r, noG_x, awp_skip, awp_reg, awp_draw, awp_seq, awp_cond, awp_block, awp_loop, awp_exit, awp_ret, arun_nil, arun_op, arun_gt, arun_gf, arunD_nil, arunD_op, arunD_gt, arunD_gf, aq_some, isB_t, isB_u, isB_f, isB_g, isB_p, isU_t, isU_b, ifB_t, ifB_f, thenQ_n, thenQ_x, thenQ_r, inQ_n, inQ_r, inQ_x, retQ_n, retQ_r, exD, AOp.isH, keepN, preB, avalP, pureR, astep, stV, stN, stE, stC, aval, anew, aElems, frzS, frzH, aeff, slots, aret, ares, aress, AV.isTup, eqFs, aEqS, ofC_i, ofC_b, ofC_s, ofC_U, getD_mapU, getD_Bs, Bs_len, Int.toNat_natCast, opd, pt, tk, subp, rdP, Rt.size, Rt.isAgg, Rt.zv, aBin, aInt, aStr, arI, aUn, aToInt, aToStr, aIdxS, zv, aIdxA, aIa, aIaA, aFa, aLd, aFld, pparts, aLo, aHi, cutL, aSlS, aSl, aExt, aNck, aNilc, AV.isStr, aLen, AV.one, AV.multi, pureB, szOk, psz, drp, spl, aEqB, aEqA, aMm, aMkfn, aMkif, aBuild, toV, aBuildA, wrP, unparts, view, nilS, St.ev, lk, St.put, St.pin, St.pinV, acall0, acall1, acall2, acall3, bor, bor0, bor1, phiL_nil, phiL_at, tau, lentO, okIds, flatC, flatB, flatOs, flatO, flatPs, place, setAll_nil, setAll_cons, nodupB, renObj, closeIds, addNew, idsOf, idsObj, posOf, lenOk_0, lenOk_1, lenOk_2, lenOk_3, lenOk_4, lenOk_8, ↓reduceIte, Option.isSome_none, Option.isSome_some, Bool.or_true, Bool.true_or,  Nat.reduceEqDiff, Nat.reduceBEq, Nat.reduceSub, Nat.reduceLT, beq_self_eq_true, List.map, List.set, List.map_cons, List.map_nil, List.flatMap_cons, List.flatMap_nil, List.flatten_cons, List.flatten_nil, true_and, and_true, List.length_cons, List.length_nil, Nat.reduceAdd, Nat.reduceLeDiff, List.nil_append, List.cons_append, List.append_nil, Option.map, mapO, ren, kp, kpI, ent, nilG, Option.bind, List.range, List.range.loop, List.getElem?_cons_zero, List.getElem?_cons_succ, List.getElem?_nil, List.getD_cons_zero, List.getD_cons_succ, List.drop_zero, List.drop_succ_cons, List.drop_nil, List.take_zero, List.take_succ_cons, List.all_cons, List.all_nil, List.isEmpty_nil, List.isEmpty_cons, Bool.and_true, Bool.true_and, Bool.not_true, Bool.not_false, List.contains_nil, reduceCtorEq, List.contains_cons, Bool.or_false, Bool.false_or, eq_self, forall_const, false_implies, Bool.false_eq_true, Nat.le_refl, List.length_map, List.length_set, List.length_replicate, and_self, implies_true]
      refine ⟨⟨by omega, by omega⟩, fun hb => ?_, fun hb => ?_⟩
      · rw [hga] at hb
        have hf : ps.findIdx badP = i := by
          have := List.not_of_lt_findIdx (xs := ps) (p := badP) (i := i)
          rcases Nat.lt_or_ge i (ps.findIdx badP) with h | h
          · exact absurd hb (by simpa using this h)
          · omega
        have hany : ps.any badP = true := List.any_eq_true.2 ⟨ps[i], List.getElem_mem _, hb⟩
        have e : fiB ps = (i : Int) := by unfold fiB; rw [hany, if_pos rfl, hf]
        simp only [e, Bool.false_eq_true, renObj, finP, finI, closeIds, addNew, idsOf, List.flatMap_nil, List.flatMap_cons, List.append_nil, List.nil_append, List.take_zero, nodupB, posOf, idsObj, List.getD_cons_zero, List.getD_cons_succ, List.range, List.range.loop, ren, lentO, mapO, Option.map, ↓reduceIte, Nat.reduceEqDiff, true_and, and_true, List.getElem?_cons_zero, List.getElem?_cons_succ, Nat.reduceAdd, List.contains_nil, Bool.not_false, Bool.and_true, List.map_nil, List.map_cons, List.take_succ_cons]
      · rw [hga] at hb
        have hf : i < ps.findIdx badP := by
          rcases Nat.lt_or_ge i (ps.findIdx badP) with h | h
          · exact h
          · have e : ps.findIdx badP = i := by omega
            have := List.findIdx_getElem (xs := ps) (p := badP) (w := by omega)
            simp only [e] at this
            rw [hb] at this; cases this
        exact ⟨by (first | omega | (simp only [lenOk, bytesOk, inI, IntKind.bits, List.length_append, Bs_len, List.length_cons, List.length_nil, List.length_map, List.length_take, List.length_drop, List.length_replicate]; omega)), i + 1, by omega, by omega, rfl⟩
    · have c1 : decide ((i : Int) < (ps.length : Int)) = false := decide_eq_false (by omega)
      have hn : ps.any badP = false := by
        rw [List.any_eq_false]
        intro x hx hb
        have := List.findIdx_lt_length_of_exists ⟨x, hx, hb⟩
        omega
      have e : fiB ps = -1 := by unfold fiB; rw [hn]; rfl
      simp only [b_ifs_0, r_ifs, t_ifs_0, badS, c1, e, awp_scope, noG_n, noG_r, noG_x, awp_skip, awp_reg, awp_draw, awp_seq, awp_cond, awp_block, awp_loop, awp_exit, awp_ret, arun_nil, arun_op, arun_gt, arun_gf, arunD_nil, arunD_op, arunD_gt, arunD_gf, aq_some, isB_t, isB_u, isB_f, isB_g, isB_p, isU_t, isU_b, ifB_t, ifB_f, thenQ_n, thenQ_x, thenQ_r, inQ_n, inQ_r, inQ_x, retQ_n, retQ_r, exD, AOp.isH, keepN, preB, avalP, pureR, astep, stV, stN, stE, stC, aval, anew, aElems, frzS, frzH, aeff, slots, aret, ares, aress, AV.isTup, eqFs, aEqS, ofC_i, ofC_b, ofC_s, ofC_U, getD_mapU, getD_Bs, Bs_len, Int.toNat_natCast, opd, pt, tk, subp, rdP, Rt.size, Rt.isAgg, Rt.zv, aBin, aInt, aStr, arI, aUn, aToInt, aToStr, aIdxS, zv, aIdxA, aIa, aIaA, aFa, aLd, aFld, pparts, aLo, aHi, cutL, aSlS, aSl, aExt, aNck, aNilc, AV.isStr, aLen, AV.one, AV.multi, pureB, szOk, psz, drp, spl, aEqB, aEqA, aMm, aMkfn, aMkif, aBuild, toV, aBuildA, wrP, unparts, view, nilS, St.ev, lk, St.put, St.pin, St.pinV, acall0, acall1, acall2, acall3, bor, bor0, bor1, phiL_nil, phiL_at, tau, lentO, okIds, flatC, flatB, flatOs, flatO, flatPs, place, setAll_nil, setAll_cons, nodupB, renObj, closeIds, addNew, idsOf, idsObj, posOf, lenOk_0, lenOk_1, lenOk_2, lenOk_3, lenOk_4, lenOk_8, ↓reduceIte, Option.isSome_none, Option.isSome_some, Bool.or_true, Bool.true_or,  Nat.reduceEqDiff, Nat.reduceBEq, Nat.reduceSub, Nat.reduceLT, beq_self_eq_true, List.map, List.set, List.map_cons, List.map_nil, List.flatMap_cons, List.flatMap_nil, List.flatten_cons, List.flatten_nil, true_and, and_true, List.length_cons, List.length_nil, Nat.reduceAdd, Nat.reduceLeDiff, List.nil_append, List.cons_append, List.append_nil, Option.map, mapO, ren, kp, kpI, ent, nilG, Option.bind, List.range, List.range.loop, List.getElem?_cons_zero, List.getElem?_cons_succ, List.getElem?_nil, List.getD_cons_zero, List.getD_cons_succ, List.drop_zero, List.drop_succ_cons, List.drop_nil, List.take_zero, List.take_succ_cons, List.all_cons, List.all_nil, List.isEmpty_nil, List.isEmpty_cons, Bool.and_true, Bool.true_and, Bool.not_true, Bool.not_false, List.contains_nil, reduceCtorEq, List.contains_cons, Bool.or_false, Bool.false_or, eq_self, forall_const, false_implies, Bool.false_eq_true, Nat.le_refl, List.length_map, List.length_set, List.length_replicate, and_self, implies_true]
      simp only [Bool.false_eq_true, renObj, finP, finI, closeIds, addNew, idsOf, List.flatMap_nil, List.flatMap_cons, List.append_nil, List.nil_append, List.take_zero, nodupB, posOf, idsObj, List.getD_cons_zero, List.getD_cons_succ, List.range, List.range.loop, ren, lentO, mapO, Option.map, ↓reduceIte, Nat.reduceEqDiff, true_and, and_true, List.getElem?_cons_zero, List.getElem?_cons_succ, Nat.reduceAdd, List.contains_nil, Bool.not_false, Bool.and_true, List.map_nil, List.map_cons, List.take_succ_cons]
  · cases hs
def c_cfs : ACode := (.seq (.reg none [⟨(some 4), (.mv (.c (.bool false))), none⟩]) (.seq (.reg none [⟨(some 5), (.mv (.t 0)), none⟩, ⟨(some 6), (.mv (.t 1)), none⟩, ⟨(some 7), (.call 34 [(.t 5), (.t 6)]), none⟩, ⟨(some 8), (.bin .geq (.t 7) (.c (.int .i64 0))), none⟩, ⟨(some 4), (.mv (.t 8)), none⟩]) .ret))
def r_cfs : List ARes := [(.t 4)]
theorem s_cfs : slimF Tryd.prog Tryd.f18 = some (c_cfs, r_cfs) := by kernel_rfl
theorem fiB_nn (ps : List (List UInt8)) : decide (0 ≤ fiB ps) = ps.any badP := by
  unfold fiB
  cases ps.any badP with
  | true => simp
  | false => rfl
def cfBadS : Spec := fun xs hp => match xs, hp with
  | [.sl 1 ps, .fn (.func g) [] []], [] => some ⟨.bool ((ps.map unS).any badP), [], g = 19 ∧ ps = (ps.map unS).map AV.str ∧ ps.length ≤ 1000000000000⟩
  | _, _ => none
theorem cfBad_ok : FnOk Tryd.prog 18 cfBadS := by
  refine fn_slim2 Tryd.func18 s_cfs (Φ := phiL [(34, [], ifBadS)]) (phi_cons ifBad_ok (by kernel_rfl) phi_nil) ?_
  intro xs hp r hs hp'
  unfold cfBadS at hs
  split at hs
  · injection hs with hs; subst hs
    rename_i qs g
    refine ⟨len_le (by kernel_rfl), ?_⟩
    obtain ⟨rfl, p2, p3⟩ := hp'
    simp only [c_cfs, r_cfs, ifBadS, fiB_nn, go_sem, Nat.reduceDiv, Nat.reduceMod, ↓reduceIte, Nat.reduceEqDiff, Nat.reduceBEq, Nat.reduceSub, Nat.reduceLT, Nat.reduceAdd, Nat.reduceLeDiff, reduceCtorEq, Int.reduceEq, Int.reduceNe, Int.reduceLT, Int.reduceLE, Int.reduceToNat]
    exact ⟨p2, p3⟩
  · cases hs
def c_cany : ACode := (.seq (.reg none [⟨(some 4), (.mv (.c (.bool false))), none⟩]) (.seq (.reg none [⟨(some 5), (.mv (.t 0)), none⟩, ⟨(some 6), (.mv (.t 1)), none⟩, ⟨(some 7), (.call 33 [(.t 5), (.t 6)]), none⟩, ⟨(some 8), (.bin .geq (.t 7) (.c (.int .i64 0))), none⟩, ⟨(some 4), (.mv (.t 8)), none⟩]) .ret))
def r_cany : List ARes := [(.t 4)]
theorem s_cany : slimF Tryd.prog Tryd.f17 = some (c_cany, r_cany) := by kernel_rfl
theorem any3 (s : List UInt8) : (s.any fun b => b == 0 || (b == 10 || b == 13)) = s.any ctlB := by
  congr 1
  funext b
  rw [Bool.eq_iff_iff]
  simp [ctlB, or_assoc]
def cany3S : Spec := fun xs hp => match xs, hp with
  | [.str s, .str p], [] => some ⟨.bool (s.any ctlB), [], p = [0, 10, 13] ∧ s.length < 4294967281⟩
  | _, _ => none
theorem cany3_ok : FnOk Tryd.prog 17 cany3S := by
  refine fn_slim2 Tryd.func17 s_cany (Φ := phiL [(33, [], idxAny3S)]) (phi_cons idxAny3_ok (by kernel_rfl) phi_nil) ?_
  intro xs hp r hs hp'
  unfold cany3S at hs
  split at hs
  · injection hs with hs; subst hs
    rename_i s p
    refine ⟨len_le (by kernel_rfl), ?_⟩
    obtain ⟨rfl, p2⟩ := hp'
    simp only [c_cany, r_cany, idxAny3S, indexAny_nn, go_sem, Nat.reduceDiv, Nat.reduceMod, ↓reduceIte, Nat.reduceEqDiff, Nat.reduceBEq, Nat.reduceSub, Nat.reduceLT, Nat.reduceAdd, Nat.reduceLeDiff, reduceCtorEq, Int.reduceEq, Int.reduceNe, Int.reduceLT, Int.reduceLE, Int.reduceToNat]
    exact ⟨p2, by rw [any3]⟩
  · cases hs
def c_nright : ACode := (.seq (.reg none [⟨(some 2), (.mv (.c (.bool false))), none⟩]) (.seq (.seq (.reg none [⟨(some 3), (.mv (.t 0)), none⟩, ⟨(some 4), (.len none true (.t 3)), none⟩, ⟨(some 5), (.bin .gtr (.t 4) (.c (.int .i64 255))), none⟩, ⟨(some 6), (.mv (.t 5)), none⟩, ⟨(some 7), (.mv (.t 0)), (some (6, false))⟩, ⟨(some 8), (.call 17 [(.t 7), (.c (.str [0, 10, 13]))]), (some (6, false))⟩, ⟨(some 9), (.pick (.t 6) (.c (.bool true)) (.t 8)), none⟩]) (.cond (.t 9) (.seq (.reg none [⟨(some 2), (.mv (.c (.bool false))), none⟩]) .ret) .skip)) (.seq (.reg none [⟨(some 10), (.mv (.t 0)), none⟩, ⟨(some 11), (.call 9 [(.t 10), (.c (.str [47]))]), none⟩, ⟨(some 12), (.call 18 [(.t 11), (.c (.fn (.func 19) [] []))]), none⟩, ⟨(some 13), (.un .not (.t 12)), none⟩, ⟨(some 2), (.mv (.t 13)), none⟩]) .ret)))
def r_nright : List ARes := [(.t 2)]
theorem s_nright : slimF Tryd.prog Tryd.f8 = some (c_nright, r_nright) := by kernel_rfl
def nrightS : Spec := fun xs hp => match xs, hp with
  | [.str s], [] => some ⟨.bool (rightP s), [], s.length ≤ 1000000000⟩
  | _, _ => none
theorem nright_ok : FnOk Tryd.prog 8 nrightS := by
  refine fn_slim2 Tryd.func8 s_nright (Φ := phiL [(17, [], cany3S), (9, [], splitS), (18, [], cfBadS)]) (phi_cons cany3_ok (by kernel_rfl) (phi_cons split_ok (by kernel_rfl) (phi_cons cfBad_ok (by kernel_rfl) phi_nil))) ?_
  intro xs hp r hs hp'
  unfold nrightS at hs
  split at hs
  · injection hs with hs; subst hs
    rename_i s
    have hp2 : s.length ≤ 1000000000 := hp'
    refine ⟨len_le (by kernel_rfl), ?_⟩
    have hlen := psl_join_len 47 s
    by_cases h1 : 255 < s.length
    · have d1 : decide ((255 : Int) < (s.length : Int)) = true := decide_eq_true (by omega)
      have e : rightP s = false := by unfold rightP; rw [decide_eq_true h1]; rfl
      simp only [c_nright, r_nright, cany3S, splitS, cfBadS, d1, e, go_sem, Nat.reduceDiv, Nat.reduceMod, ↓reduceIte, Nat.reduceEqDiff, Nat.reduceBEq, Nat.reduceSub, Nat.reduceLT, Nat.reduceAdd, Nat.reduceLeDiff, reduceCtorEq, Int.reduceEq, Int.reduceNe, Int.reduceLT, Int.reduceLE, Int.reduceToNat]
    · have d1 : decide ((255 : Int) < (s.length : Int)) = false := decide_eq_false (by omega)
      cases hc : s.any ctlB with
      | true =>
        have e : rightP s = false := by unfold rightP; rw [hc]; simp
        simp only [c_nright, r_nright, cany3S, splitS, cfBadS, d1, e, hc, go_sem, Nat.reduceDiv, Nat.reduceMod, ↓reduceIte, Nat.reduceEqDiff, Nat.reduceBEq, Nat.reduceSub, Nat.reduceLT, Nat.reduceAdd, Nat.reduceLeDiff, reduceCtorEq, Int.reduceEq, Int.reduceNe, Int.reduceLT, Int.reduceLE, Int.reduceToNat]
        omega
      | false =>
        have e : rightP s = !(psl 47 s).any badP := by unfold rightP; rw [hc, decide_eq_false h1]; simp
        simp only [c_nright, r_nright, cany3S, splitS, cfBadS, d1, e, hc, unS_map, go_sem, Nat.reduceDiv, Nat.reduceMod, ↓reduceIte, Nat.reduceEqDiff, Nat.reduceBEq, Nat.reduceSub, Nat.reduceLT, Nat.reduceAdd, Nat.reduceLeDiff, reduceCtorEq, Int.reduceEq, Int.reduceNe, Int.reduceLT, Int.reduceLE, Int.reduceToNat]
        exact ⟨by omega, by omega⟩
  · cases hs
end Go.Proofs.YtakojeefilpibaaDoor
