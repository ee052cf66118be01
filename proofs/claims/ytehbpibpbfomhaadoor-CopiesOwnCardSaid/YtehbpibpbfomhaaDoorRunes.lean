/- strings.IndexRune, strings.IndexAny at the three signs 0, 10, 13, whatever the text. -/
import Derived.Test.YtehbpibpbfomhaaDoorShelf
import Derived.Test.YtehbpibpbfomhaaDoorMem
import Derived.Laws.RangeAny
import Derived.Laws.Runes
import Derived.Deep.LoopGhost
import Derived.Deep.QuietTactic
import Derived.WalkMore
namespace Go.Proofs.YtehbpibpbfomhaaDoor
set_option linter.all false
open Go.RowKit
def ctl3 : ByteArray := ⟨#[0, 10, 13]⟩
theorem below_drewN (w : World) (k : Nat) : Below w.heap.size w (w.drewN k) := belowN (Below.refl _ _) k
theorem ctl3_hi (b : UInt8) (hb : 128 ≤ b.toNat) : ctl3.data.toList.contains b = false := by
  have e0 : (b == (0 : UInt8)) = false := beq_eq_false_iff_ne.2 (by rintro rfl; revert hb; decide)
  have e1 : (b == (10 : UInt8)) = false := beq_eq_false_iff_ne.2 (by rintro rfl; revert hb; decide)
  have e2 : (b == (13 : UInt8)) = false := beq_eq_false_iff_ne.2 (by rintro rfl; revert hb; decide)
  show ([0, 10, 13] : List UInt8).contains b = false
  simp only [List.contains_cons, e0, e1, e2, List.contains_nil, Bool.or_false]
theorem ib3 (n : Nat) (h : n < 3) (b : UInt8) (hb : 128 ≤ b.toNat) : Lib.indexByte (List.take (ctl3.size - (n + 1)) (List.drop (n + 1) ctl3.data.toList)) b = -1 := by
  have e1 : ((10 : UInt8) == b) = false := beq_eq_false_iff_ne.2 (by rintro rfl; revert hb; decide)
  have e2 : ((13 : UInt8) == b) = false := beq_eq_false_iff_ne.2 (by rintro rfl; revert hb; decide)
  match n, h with
  | 0, _ => show Lib.indexByte [10, 13] b = -1; simp [Lib.indexByte, e1, e2]
  | 1, _ => show Lib.indexByte [13] b = -1; simp [Lib.indexByte, e2]
  | 2, _ => rfl
theorem encode_hi (r : Int) (h : 128 ≤ r) : ∃ l : List UInt8, (Utf8.encode r).data.toList = l ∧ 2 ≤ l.length ∧ l.length ≤ 4 ∧ 128 ≤ (l.getD (l.length - 1) 0).toNat := by
  refine ⟨_, rfl, ?_⟩
  unfold Utf8.encode
  dsimp only
  have hc : 128 ≤ (if Utf8.valid r = true then r.toNat else Utf8.runeError) := by
    split
    · omega
    · decide
  generalize (if Utf8.valid r = true then r.toNat else Utf8.runeError) = c at *
  by_cases h2 : c < 2048
  · simp [show ¬ c < 128 by omega, h2]; omega
  · by_cases h3 : c < 65536
    · simp [show ¬ c < 128 by omega, h2, h3]; omega
    · simp [show ¬ c < 128 by omega, h2, h3]; omega
set_option maxHeartbeats 2000000 in
set_option maxRecDepth 1000000 in
theorem indexRune_err (w : World) :
    Calls Tryd.prog 45 #[.string ctl3, .int .i32 65533] w fun e w' => e = .returned (.int .i64 (-1)) ∧ Below w.heap.size w w' := by
  go_enter Tryd.func45, Tryd.ntmps45
  go_wp2
  go_loopg [5, 6] 3 (fun g _ _ wx => ∃ i : Nat, i + g = 3 ∧ wx = w.iter ctl3 i)
  case atStart => exact ⟨0, by omega, rfl⟩
  case round =>
    obtain ⟨i, hig, rfl⟩ := hrel
    cases gk with
    | zero =>
      obtain rfl : i = 3 := by omega
      have hnx := fun ty => run_next_end (P := Tryd.prog) w ctl3 3 ty (by decide)
      go_wp2
      go_ret
      exact ⟨rfl, (Below.refl _ _).alloc (Nat.le_refl _) _⟩
    | succ g =>
      have hnx := fun ty => run_next_ascii (P := Tryd.prog) w ctl3 i ty
      match i, hig with
      | 0, _ =>
        have hnx := fun ty => run_next_ascii (P := Tryd.prog) w ctl3 0 ty (by decide) (by decide)
        go_wp2
        go_roundg g
        case measure => omega
        case rel => exact ⟨1, by omega, rfl⟩
      | 1, _ =>
        have hnx := fun ty => run_next_ascii (P := Tryd.prog) w ctl3 1 ty (by decide) (by decide)
        go_wp2
        go_roundg g
        case measure => omega
        case rel => exact ⟨2, by omega, rfl⟩
      | 2, _ =>
        have hnx := fun ty => run_next_ascii (P := Tryd.prog) w ctl3 2 ty (by decide) (by decide)
        go_wp2
        go_roundg g
        case measure => omega
        case rel => exact ⟨3, by omega, rfl⟩
      | k + 3, _ => omega
set_option maxHeartbeats 2000000 in
set_option maxRecDepth 1000000 in
theorem indexRune_far (r : Int) (w : World) (h0 : 128 ≤ r) (h1 : r ≤ 2147483647) (h2 : r ≠ 65533) :
    Calls Tryd.prog 45 #[.string ctl3, .int .i32 r] w fun e w' => e = .returned (.int .i64 (-1)) ∧ Below w.heap.size w w' := by
  obtain ⟨l, hl, l1, l2, l3⟩ := encode_hi r h0
  obtain ⟨E, hE⟩ : ∃ E, Utf8.encode r = E := ⟨_, rfl⟩
  rw [hE] at hl
  have hsz : E.size = l.length := by rw [← hl]; exact Lib.size_eq E
  have d0 : decide ((0 : Int) ≤ r) = true := decide_eq_true (by omega)
  have d1 : decide (r < (128 : Int)) = false := decide_eq_false (by omega)
  have d2 : (r == (65533 : Int)) = false := beq_eq_false_iff_ne.2 h2
  obtain ⟨b, hb⟩ : ∃ b : UInt8, l.getD (l.length - 1) 0 = b := ⟨_, rfl⟩
  rw [hb] at l3
  have hc0 : (l.length : Int) - 1 = ((l.length - 1 : Nat) : Int) := by omega
  have hix : ∀ w, (Instr.index 9 (.string E) (.int .i64 ((l.length - 1 : Nat) : Int))).run Tryd.prog w = .ok (.int .u8 (b.toNat : Int)) w := by
    intro w
    have hlt : l.length - 1 < E.size := by omega
    have hget : E[l.length - 1] = b := by
      have h := Lib.data_getElem? E (l.length - 1) hlt
      rw [hl] at h
      rw [← hb, List.getD_eq_getElem?_getD, h]; rfl
    rw [run_index_string w 9 E .i64 _ Tryd.underlying9]
    have hw1 : (0 : Int) ≤ ((l.length - 1 : Nat) : Int) := by omega
    simp [hw1, hlt, hget]
  have hsx : l.length - 1 < 3 → ∃ c : Int, c < 128 ∧ ∀ w, (Instr.index 9 (.string ctl3) (.int .i64 ((l.length - 1 : Nat) : Int))).run Tryd.prog w = .ok (.int .u8 c) w := by
    generalize l.length - 1 = n
    intro h
    match n, h with
    | 0, _ => exact ⟨0, by decide, fun w => by rw [run_index_string w 9 ctl3 .i64 _ Tryd.underlying9]; rfl⟩
    | 1, _ => exact ⟨10, by decide, fun w => by rw [run_index_string w 9 ctl3 .i64 _ Tryd.underlying9]; rfl⟩
    | 2, _ => exact ⟨13, by decide, fun w => by rw [run_index_string w 9 ctl3 .i64 _ Tryd.underlying9]; rfl⟩
  have hcv : ∀ w, (convert 21 9 (.int .i32 r)).run Tryd.prog w = .ok (.string E) w := by
    intro w; rw [run_convert_int_string w _ _ .i32 r (by kernel_rfl) Tryd.underlying9, hE]
  cases hv : Lib.validRune r with
  | false =>
    go_enter Tryd.func45, Tryd.ntmps45
    go_wp2_with (at_builtin; refine stopAt ?_)
    refine (Tryd.utf8_ValidRune _ _).mono ?_
    rintro e w' ⟨rfl, rfl⟩
    rw [hv]
    go_wp2
    go_ret
    exact ⟨rfl, Below.refl _ _⟩
  | true =>
    go_enter Tryd.func45, Tryd.ntmps45
    go_wp2_with (at_builtin; refine stopAt ?_)
    refine (Tryd.utf8_ValidRune _ _).mono ?_
    rintro e w' ⟨rfl, rfl⟩
    rw [hv]
    go_wp2
    apply wp_scope_straight
    go_wp2
    obtain ⟨n, hn⟩ : ∃ n, l.length - 1 = n := ⟨_, rfl⟩
    rw [hn] at hix hsx
    rw [hn]
    have hn4 : n < 4 := by omega
    have hcs : (ctl3.size : Int) = 3 := rfl
    clear hl hsz hcv hc0 d0 d1 d2 hE hb
    go_loopw [9] (fun i wr => i = .int .i64 (n : Int) ∧ wr = w') (fun _ _ => 0)
    case atStart => exact ⟨rfl, rfl⟩
    case round =>
      obtain ⟨rfl, rfl⟩ := hrel
      by_cases h3 : n < 3
      · have d3 : decide ((n : Int) < (ctl3.size : Int)) = true := decide_eq_true (by rw [hcs]; omega)
        obtain ⟨c, hcl, hcx⟩ := hsx h3
        have hne : (c != (b.toNat : Int)) = true := by simp; omega
        have hib := ib3 n h3 b l3
        have hw1 : IntKind.i64.wrap ((n : Int) + 1) = (n : Int) + 1 := IntWalk.i64_in _ (by omega)
        have hn0 : (0 : Int) ≤ (n : Int) + 1 := by omega
        have hn1 : ((n : Int) + 1).toNat = n + 1 := by omega
        have hn2 : (n : Int) + 1 ≤ (ctl3.size : Int) := by rw [hcs]; omega
        have hsl : ∀ w, (Instr.slice 9 (.string ctl3) (some (.int .i64 ((n : Int) + 1))) none none).run Tryd.prog w = .ok (.string (ctl3.extract (n + 1) ctl3.size)) w := by
          intro w; rw [run_slice_string_l w _ _ Tryd.underlying9 .i64 _ hn0 hn2, hn1]
        go_wp2
        apply wp_scope_straight
        go_wp2
        go_quiet (fail)
        go_wp2
        go_quiet (exact (Tryd.strings_IndexByte _ _ _).mono fun e w' ⟨h1, h2⟩ => ⟨h1, _, h2⟩)
        go_wp2
        repeat (first | rw [Exit.noGoto_ret] | rw [show ∀ (k : Nat) (Q : Exit → Act → World → Prop), Exit.inBlock k Q .ret = Q .ret from fun _ _ => rfl])
        simp +zetaDelta only [Exit.noGoto_ret, Exit.inBlock, Exit.then]
        go_ret
        exact ⟨rfl, belowN (Below.refl _ _) _⟩
      · have d3 : decide ((n : Int) < (ctl3.size : Int)) = false := decide_eq_false (by rw [hcs]; omega)
        go_wp2
        simp only [Exit.noGoto_ret]
        go_ret
        exact ⟨rfl, Below.refl _ _⟩
theorem indexRune_hi (r : Int) (w : World) (h0 : 128 ≤ r) (h1 : r ≤ 2147483647) :
    Calls Tryd.prog 45 #[.string ctl3, .int .i32 r] w fun e w' => e = .returned (.int .i64 (-1)) ∧ Below w.heap.size w w' := by
  by_cases h2 : r = 65533
  · subst h2; exact indexRune_err w
  · exact indexRune_far r w h0 h1 h2
/-- A sign that is more than one byte: its bytes are none of the three. -/
theorem decode_span (s : ByteArray) (pos : Nat) (h : pos < s.size) (ha : 128 ≤ (s[pos]'h).toNat) : ∀ k, k < (Utf8.decode s pos).2 → pos + k < s.size ∧ 128 ≤ (s.get! (pos + k)).toNat := by
  have h0 : pos + 0 < s.size ∧ 128 ≤ (s.get! (pos + 0)).toNat := ⟨h, by rw [get_at s pos h]; exact ha⟩
  have hc : ∀ k, (decide (pos + k < s.size) && (s.get! (pos + k)).toNat / 64 == 2) = true → pos + k < s.size ∧ 128 ≤ (s.get! (pos + k)).toNat := by
    intro k hk
    simp only [Bool.and_eq_true, decide_eq_true_eq, beq_iff_eq] at hk
    exact ⟨hk.1, by omega⟩
  have hn : ¬ (s[pos]'h).toNat < 128 := by omega
  have key : ∀ n, n = (Utf8.decode s pos).2 → ∀ k, k < n → pos + k < s.size ∧ 128 ≤ (s.get! (pos + k)).toNat := by
    intro n
    simp only [Utf8.decode, get_at s pos h, hn, if_false]
    repeat' split
    all_goals (
      rintro rfl k hk
      simp only [Bool.and_eq_true] at *
      match k, hk with
      | 0, _ => exact h0
      | 1, _ => first | omega | exact hc 1 (by simp_all)
      | 2, _ => first | omega | exact hc 2 (by simp_all)
      | 3, _ => first | omega | exact hc 3 (by simp_all)
      | k + 4, _ => omega)
  exact key _ rfl
theorem getB (s : ByteArray) (j : Nat) (h : j < s.size) : s.data.toList[j]? = some (s.get! j) := by
  rw [Lib.data_getElem? s j h]
  congr 1
  have := get_at s j h
  rw [Nat.add_zero] at this
  exact this.symm
theorem run_next_at (wx : World) (k : Nat) (s : ByteArray) (pos : Nat) (ty : TypeId) (hk : wx.heap[k]? = some (.stringIter s pos)) (h : pos < s.size) :
    (Instr.next (.pointer (some ⟨k, 0, none⟩)) true ty).run Tryd.prog wx =
      .ok (.tuple #[.bool true, .int .i64 pos, .int .i32 (Utf8.decode s pos).1]) { wx with heap := wx.heap.setIfInBounds k (.stringIter s (pos + (Utf8.decode s pos).2)) } := by
  simp only [Instr.next, getObj, setObj, Sem.run_bind, Sem.run, hk, Result.andThen, h, if_true]
  simp [goInt]
theorem run_next_stop (wx : World) (k : Nat) (s : ByteArray) (pos : Nat) (ty : TypeId) (hk : wx.heap[k]? = some (.stringIter s pos)) (h : ¬ pos < s.size) :
    (Instr.next (.pointer (some ⟨k, 0, none⟩)) true ty).run Tryd.prog wx = .ok (.tuple #[.bool false]) wx := by
  simp [Instr.next, getObj, Sem.run, hk, h]
theorem below_iter {w wx : World} {k : Nat} {o : Obj} (h : Below w.heap.size w wx) (hk : w.heap.size ≤ k) : Below w.heap.size w { wx with heap := wx.heap.setIfInBounds k o } :=
  ⟨h.os, h.tape, h.output, by simpa using h.size, fun j hj => by rw [← h.block j hj]; simp [Array.getElem?_setIfInBounds, show k ≠ j by omega]⟩
set_option maxHeartbeats 8000000 in
set_option maxRecDepth 1000000 in
theorem indexAny_short3 (s : ByteArray) (w : World) (h8 : s.size ≤ 8) :
    Calls Tryd.prog 38 #[.string s, .string ctl3] w fun e w' => e = .returned (.int .i64 (Lib.indexAny s.data.toList ctl3.data.toList)) ∧ Below w.heap.size w w' := by
  have hemp : ctl3.toList.isEmpty = false := by rw [Lib.toList_data]; rfl
  have hn1 : ((ctl3.size : Int) == 1) = false := rfl
  have h8z : decide ((8 : Int) < (s.size : Int)) = false := decide_eq_false (by omega)
  go_enter Tryd.func38, Tryd.ntmps38
  go_wp2_with (at_builtin; refine stopAt ?_)
  refine (Tryd.strings_shouldUseASCIISet _ _).mono ?_
  rintro e w' ⟨rfl, rfl⟩
  rw [h8z]
  go_wp2
  have hlen : s.data.toList.length = s.size := (Lib.size_eq s).symm
  go_loopg [9, 10] s.size (fun g _ _ wx => ∃ p : Nat, p + g = s.size ∧ Below w'.heap.size w' wx ∧ wx.heap[w'.heap.size]? = some (.stringIter s p) ∧ Lib.NoAny s.data.toList ctl3.data.toList p)
  case atStart => exact ⟨0, by omega, (Below.refl _ _).alloc (Nat.le_refl _) _, World.iter_heap _ _ _, Lib.NoAny.zero _ _⟩
  case round =>
    obtain ⟨p, hps, hbel, hit, hno⟩ := hrel
    have HN : Aside (Lib.NoAny s.data.toList ctl3.data.toList p) := hno
    have HB : Aside (Below w'.heap.size w' wr) := hbel
    clear hno hbel
    have hlb : w'.heap.size < wr.heap.size := (Array.getElem?_eq_some_iff.1 hit).1
    by_cases hlt : p < s.size
    · have hnx := fun ty => run_next_at wr w'.heap.size s p ty hit hlt
      obtain ⟨x, hx⟩ : ∃ x : UInt8, s[p]'hlt = x := ⟨_, rfl⟩
      have hxl : s.data.toList[p]? = some x := by rw [← hx]; exact Lib.data_getElem? s p hlt
      by_cases hx128 : x.toNat < 128
      · have hd := decode_ascii s p hlt (by rw [hx]; exact hx128)
        rw [hx] at hd
        rw [hd] at hnx
        obtain ⟨wn, hwn⟩ : ∃ wn : World, { wr with heap := wr.heap.setIfInBounds w'.heap.size (.stringIter s (p + 1)) } = wn := ⟨_, rfl⟩
        have Hn : Aside (Below w'.heap.size w' wn ∧ wn.heap[w'.heap.size]? = some (.stringIter s (p + 1))) := by
          rw [← hwn]; exact ⟨below_iter HB.out (Nat.le_refl _), by simp [hlb]⟩
        simp only [hwn] at hnx
        have hcon := Lib.contains_iff_indexByte ctl3.data.toList x
        have hback : ((x.toNat : Int)).toNat.toUInt8 = x := by simp
        have Hx : Aside (s.data.toList[p]? = some x) := hxl
        clear hxl hx hd
        cases hin : ctl3.data.toList.contains x with
        | false =>
          rw [hin] at hcon
          have hlt0 : decide ((0 : Int) ≤ Lib.indexByte ctl3.data.toList x) = false := hcon.symm
          clear hcon
          go_wp2_with (at_builtin; refine stopAt ?_)
          refine (Tryd.strings_IndexRune_ascii _ _ _ (by omega) (by omega)).mono ?_
          rintro e w3 ⟨rfl, rfl⟩
          rw [hback]
          go_wp2
          obtain ⟨g, rfl⟩ : ∃ g, gk = g + 1 := ⟨gk - 1, by omega⟩
          go_roundg g
          case measure => omega
          case rel => exact ⟨p + 1, by omega, Hn.out.1, Hn.out.2, HN.out.succ Hx.out hin⟩
        | true =>
          rw [hin] at hcon
          have hlt0 : decide ((0 : Int) ≤ Lib.indexByte ctl3.data.toList x) = true := hcon.symm
          clear hcon
          go_wp2_with (at_builtin; refine stopAt ?_)
          refine (Tryd.strings_IndexRune_ascii _ _ _ (by omega) (by omega)).mono ?_
          rintro e w3 ⟨rfl, rfl⟩
          rw [hback]
          go_wp2
          go_ret
          exact ⟨by rw [Lib.indexAny_hit HN.out Hx.out hin]; rfl, Hn.out.1⟩
      · have hd := decode_high s p hlt (by rw [hx]; omega)
        have hsp := decode_span s p hlt (by rw [hx]; omega)
        have hle := decode_le s p
        obtain ⟨⟨c, n⟩, hcn⟩ : ∃ cn, Utf8.decode s p = cn := ⟨_, rfl⟩
        rw [hcn] at hnx hd hsp hle
        simp only at hnx hd hsp hle
        obtain ⟨wn, hwn⟩ : ∃ wn : World, { wr with heap := wr.heap.setIfInBounds w'.heap.size (.stringIter s (p + n)) } = wn := ⟨_, rfl⟩
        have Hn : Aside (Below w'.heap.size w' wn ∧ wn.heap[w'.heap.size]? = some (.stringIter s (p + n))) := by
          rw [← hwn]; exact ⟨below_iter HB.out (Nat.le_refl _), by simp [hlb]⟩
        simp only [hwn] at hnx
        have HS : Aside (∀ k, k < n → p + k < s.size ∧ 128 ≤ (s.get! (p + k)).toNat) := hsp
        clear hsp hcn hxl hx
        go_wp2_with (at_builtin; refine stopAt ?_)
        refine (indexRune_hi (c : Int) _ (by omega) (by omega)).mono ?_
        rintro e w3 ⟨rfl, hb3⟩
        have hp : p + n ≤ s.size := by have := (HS.out (n - 1) (by omega)).1; omega
        have Hn3 : Aside (Below w'.heap.size w' w3 ∧ w3.heap[w'.heap.size]? = some (.stringIter s (p + n))) := by
          obtain ⟨h1, h2⟩ := Hn.out
          have h3 : w'.heap.size < wn.heap.size := (Array.getElem?_eq_some_iff.1 h2).1
          exact ⟨h1.trans ⟨hb3.os, hb3.tape, hb3.output, hb3.size, fun k hk => hb3.block k (by omega)⟩, by rw [hb3.block _ h3]; exact h2⟩
        clear hb3
        go_wp2
        obtain ⟨g, hg⟩ : ∃ g, p + n + g = s.size := ⟨s.size - (p + n), by omega⟩
        go_roundg g
        case measure => omega
        case rel =>
          refine ⟨p + n, by omega, Hn3.out.1, Hn3.out.2, fun j b hj hb => ?_⟩
          rcases Nat.lt_or_ge j p with h | h
          · exact HN.out j b h hb
          · obtain ⟨k, rfl⟩ : ∃ k, j = p + k := ⟨j - p, by omega⟩
            obtain ⟨k1, k2⟩ := HS.out k (by omega)
            rw [getB s _ k1] at hb
            injection hb with hb
            subst hb
            generalize s.get! (p + k) = b at *
            exact ctl3_hi b k2
    · have hnx := fun ty => run_next_stop wr w'.heap.size s p ty hit hlt
      obtain rfl : p = s.size := by omega
      go_wp2
      go_ret
      exact ⟨by rw [Lib.indexAny_none (by rw [← Lib.size_eq]; exact HN.out)]; rfl, HB.out⟩
end Go.Proofs.YtehbpibpbfomhaaDoor
