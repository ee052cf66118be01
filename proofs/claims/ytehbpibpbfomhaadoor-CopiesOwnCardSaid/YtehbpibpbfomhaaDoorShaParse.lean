/- sha.Parse: forty letters as a sum. -/
import Derived.Test.YtehbpibpbfomhaaDoorParseLaw
import Derived.Test.YtehbpibpbfomhaaDoorHex
import Derived.Test.YtehbpibpbfomhaaDoorSep
namespace Go.Proofs.YtehbpibpbfomhaaDoor
set_option linter.all false
open Go.RowKit

theorem idx_dv (c : UInt8) (w : World) : Calls Tryd.prog 37 #[.string ⟨#[48, 49, 50, 51, 52, 53, 54, 55, 56, 57, 97, 98, 99, 100, 101, 102]⟩, .int .u8 (c.toNat : Int)] w fun e w' => e = .returned (.int .i64 (dv c)) ∧ w' = w := by
  have h := Tryd.strings_IndexByte ⟨#[48, 49, 50, 51, 52, 53, 54, 55, 56, 57, 97, 98, 99, 100, 101, 102]⟩ (c.toNat : Int) w
  have e : (c.toNat : Int).toNat.toUInt8 = c := by simp
  rw [e] at h
  have e2 : dv c = Lib.indexByte ((⟨#[48, 49, 50, 51, 52, 53, 54, 55, 56, 57, 97, 98, 99, 100, 101, 102]⟩ : ByteArray).data.toList) c := by unfold dv; rfl
  rw [e2]; exact h
theorem index_str (l : List UInt8) (k : Nat) (hk : k < l.length) (w : World) : (Instr.index 9 (.string ⟨l.toArray⟩) (.int .i64 (k : Int))).run Tryd.prog w = .ok (.int .u8 ((l.getD k 0).toNat : Int)) w := by
  have e : (⟨l.toArray⟩ : ByteArray).size = l.length := rfl
  rw [run_index_string _ _ _ _ _ Tryd.underlying9, dif_pos ⟨by omega, by rw [e]; omega⟩]
  have e2 : (⟨l.toArray⟩ : ByteArray)[(k : Int).toNat]'(by rw [e]; omega) = l.getD k 0 := by
    simp only [Int.toNat_natCast]
    rw [List.getD_eq_getElem?_getD, List.getElem?_eq_getElem hk]
    rfl
  rw [e2]
theorem results_row_tmp {P : Program} {fn : Func} {p u : Tmp} {ty : TypeId} (h : fn.results = #[.cell p ty, .tmp u]) (tmps : Array Value) (w : World) (g : Nat) (t : TypeId) (cs : Array Value) (fr : Nat × Nat) (d : TypeDesc)
    (hp : tmps.getD p undef = .pointer (some ⟨g, 0, none⟩)) (hg : w.heap[g]? = some (.cells cs t fr))
    (hu : P.underlying ty = some d) (hd : (match d with | .struct _ | .array _ _ => true | _ => false) = true) (hi : (P.info? ty).map (·.size) = some cs.size) :
    (results fn tmps).run P w = .ok (.tuple #[.agg cs, tmps.getD u undef]) w := by
  rw [results_cell_tmp h, hp]
  simp [asAddr, run_loadVar_row w g t ty cs fr d hg hu hd hi]
theorem or_digF : ∀ d v : Fin 16, d.1 * 16 ||| v.1 = d.1 * 16 + v.1 := by decide +kernel
theorem or_dig (d v : Nat) (hd : d < 16) (hv : v < 16) : bits .or .u8 ((d : Int) * 16 % 256) (v : Int) = ((d * 16 + v : Nat) : Int) := by
  rw [show (d : Int) * 16 % 256 = ((d * 16 : Nat) : Int) by omega, u8_or_nat _ _ (by omega) (by omega), or_digF ⟨d, hd⟩ ⟨v, hv⟩]
theorem U_all (l : List UInt8) : ((l.map U).toArray).all (·.oneCell') = true := by
  simp [U, Value.oneCell']
theorem z20_size : z20.size = 20 := by unfold z20; simp
theorem z20_one : z20.all (·.oneCell') = true := by unfold z20; simp [Value.oneCell']

set_option maxHeartbeats 2000000 in
set_option maxRecDepth 100000 in
theorem shaParse (l : List UInt8) (w : World) (hl : l.length ≤ 100000) :
    Calls Tryd.prog 24 #[.string ⟨l.toArray⟩] w fun e w' => e = .returned (.tuple (if l.length = 40 ∧ ∀ c ∈ l, 0 ≤ dv c then #[.agg (outC l 40), .int .i64 0] else #[.agg z20, .int .i64 4])) ∧ Below w.heap.size w w' := by
  obtain ⟨R, hR⟩ : ∃ R, R = Value.tuple (if l.length = 40 ∧ ∀ c ∈ l, 0 ≤ dv c then #[.agg (outC l 40), .int .i64 0] else #[.agg z20, .int .i64 4]) := ⟨_, rfl⟩
  rw [← hR]
  have HR := hide hR
  clear hR
  have hz := zero20
  have hzs := z20_size
  have hS := ((Sep.start w).allocC z20 26).allocC z20 26
  rw [World.size_alloc] at hS
  simp only [List.cons_append, List.nil_append, List.set_cons_zero, List.set_cons_succ, List.map_cons, List.map_nil, List.getD_cons_zero, List.getD_cons_succ, Array.toList] at hS
  have hlc : (⟨l.toArray⟩ : ByteArray).size = l.length := rfl
  go_enter Tryd.func24, Tryd.ntmps24
  by_cases h40 : l.length = 40
  · go_wp2
    have hzc : z20 = outC l 0 := by rw [outC_zero]; rfl
    have hS2 : Sep w.heap.size w ((w.alloc (.cells z20 26)).alloc (.cells z20 26)) [.blk w.heap.size 26 z20, .blk (w.heap.size + 1) 26 (outC l 0)] := by rw [← hzc]; exact hS
    clear hS hzc
    go_loopw [13] (fun i wr => ∃ k : Nat, k ≤ 40 ∧ i = .int .i64 k ∧ (∀ c ∈ l.take k, 0 ≤ dv c) ∧ Sep w.heap.size w wr [.blk w.heap.size 26 z20, .blk (w.heap.size + 1) 26 (outC l k)])
      (fun i _ => 40 - (intOf i).toNat)
    case atStart => exact ⟨0, by omega, rfl, (fun c hc => by simp at hc), hS2⟩
    case round =>
      clear hS2
      obtain ⟨k, hk, rfl, hval, hS⟩ := hrel
      by_cases hlt : k < 40
      · have hlt' : (k : Int) < (l.length : Int) := by omega
        have hx := index_str l k (by omega)
        have hmem : l.getD k 0 ∈ l := by
          rw [List.getD_eq_getElem?_getD, List.getElem?_eq_getElem (by omega)]; exact List.getElem_mem _
        have htk : l.take (k + 1) = l.take k ++ [l.getD k 0] := by
          rw [List.take_succ, List.getElem?_eq_getElem (by omega), List.getD_eq_getElem?_getD, List.getElem?_eq_getElem (by omega)]; rfl
        have hE := outN_even l k
        have hO := outN_odd l k
        have hstep := outC_step l k
        obtain ⟨c, hc⟩ : ∃ c, l.getD k 0 = c := ⟨_, rfl⟩
        rw [hc] at hx hmem htk hE hO
        have hvl := dv_lt c
        go_wp2_with (at_builtin; refine stopAt ?_)
        refine (idx_dv c wr).mono ?_
        rintro e w2 ⟨rfl, rfl⟩
        by_cases hv : dv c < 0
        · have hno : ¬ (l.length = 40 ∧ ∀ c ∈ l, 0 ≤ dv c) := fun h => by have := h.2 c hmem; omega
          have Hno := hide hno
          clear hno hE hO hstep hval htk hmem
          go_wp2_with (with_reducible refine wpList_stopStore (ty := 26) (x := .tmp 2) (y := .tmp 22) rfl ?_)
          refine unstop (wpList_store_rowS hS 0 rfl rfl 26 (.tmp 2) (.tmp 22) rfl rfl rfl (by rw [hzs]; exact info20) rfl z20_one ?_)
          clear hS
          intro w2 hS
          simp only [List.cons_append, List.nil_append, List.set_cons_zero, List.set_cons_succ, List.map_cons, List.map_nil, List.getD_cons_zero, List.getD_cons_succ, Array.toList] at hS
          have hb0 := hS.blk 0 rfl
          have hbl := hS.below
          go_wp2
          refine ⟨by simp, _, ?_, (by rw [HR.out, if_neg Hno.out]), hbl⟩
          refine results_row_tmp (p := 2) (u := 3) rfl _ w2 w.heap.size 26 _ (0, 0) _ ?_ hb0 Tryd.underlying26 rfl (by rw [hzs]; exact info20)
          rfl
        · obtain ⟨v, hv2⟩ : ∃ v : Nat, dv c = v := ⟨(dv c).toNat, by omega⟩
          have hv16 : v < 16 := by omega
          have hv0 : ¬ (v : Int) < 0 := by omega
          rw [hv2]
          have g1 : w2.cell? ⟨w.heap.size + 1, k / 2, none⟩ = some (.int .u8 (outN l k (k / 2) : Int)) := hS.cell 1 (k / 2) rfl (outC_at l k (k / 2) (by omega))
          have f1 := hS.frozen 1 (k / 2) rfl
          have hE2 : bits .or .u8 ((outN l k (k / 2) : Int) * 16 % 256) (v : Int) = (outN l (k + 1) (k / 2) : Int) := by
            rcases Nat.mod_two_eq_zero_or_one k with h2 | h2
            · obtain ⟨a1, a2⟩ := hE h2
              have h3 := or_dig 0 v (by omega) hv16
              rw [Nat.zero_mul, Nat.zero_add] at h3
              rw [a1, a2, hv2, Int.toNat_natCast]
              exact h3
            · obtain ⟨a1, a2⟩ := hO h2
              rw [a2, hv2, or_dig _ v a1 hv16]
              simp; omega
          replace hE2 := hide hE2
          have hst := hide (hstep _ hE2.out)
          clear hE hO hstep
          go_wp2
          go_roundw
          case rel =>
            refine ⟨k + 1, by omega, by simp, fun x hx => ?_, (hS.store 1 (j := k / 2) rfl _).cast ?_⟩
            · rw [htk, List.mem_append, List.mem_singleton] at hx
              rcases hx with hx | rfl
              · exact hval x hx
              · omega
            · simp only [List.set_cons_succ, List.set_cons_zero]
              rw [hst.out]
          case measure => simp [intOf]; omega
      · obtain rfl : k = 40 := by omega
        rw [List.take_of_length_le (by omega)] at hval
        have hyes := hide (show l.length = 40 ∧ ∀ c ∈ l, 0 ≤ dv c from ⟨h40, hval⟩)
        clear hval
        go_wp2_with (with_reducible refine wpList_stopLoad (ty := 26) (x := .tmp 4) rfl ?_)
        refine unstop (wpList_load_row rfl 26 (.tmp 4) rfl (w.heap.size + 1) rfl 26 (outC l 40) (0, 0) _ (hS.blk 1 rfl) Tryd.underlying26 rfl (by rw [outC_size]; exact info20) ?_)
        refine wpList_store_rowS hS 0 rfl rfl 26 (.tmp 2) (.tmp 35) rfl rfl rfl (by rw [outC_size]; exact info20) (by rw [outC_size, hzs]) (by rw [outC_U]; exact U_all _) ?_
        clear hS
        intro w2 hS
        simp only [List.cons_append, List.nil_append, List.set_cons_zero, List.set_cons_succ, List.map_cons, List.map_nil, List.getD_cons_zero, List.getD_cons_succ, Array.toList] at hS
        have hb0 := hS.blk 0 rfl
        have hbl := hS.below
        go_wp2
        refine ⟨by simp, _, ?_, (by rw [HR.out, if_pos hyes.out]), hbl⟩
        refine results_row_tmp (p := 2) (u := 3) rfl _ w2 w.heap.size 26 _ (0, 0) _ ?_ hb0 Tryd.underlying26 rfl (by rw [outC_size]; exact info20)
        rfl
  · have HR2 := hide (HR.out.trans (by rw [if_neg (fun h => h40 h.1)]))
    clear HR
    have hne : ((l.length : Int) != 40) = true := by rw [bne_iff_ne]; omega
    go_wp2_with (with_reducible refine wpList_stopStore (ty := 26) (x := .tmp 2) (y := .tmp 10) rfl ?_)
    refine unstop (wpList_store_rowS hS 0 rfl rfl 26 (.tmp 2) (.tmp 10) rfl rfl rfl (by rw [hzs]; exact info20) rfl z20_one ?_)
    clear hS
    intro w2 hS
    simp only [List.cons_append, List.nil_append, List.set_cons_zero, List.set_cons_succ, List.map_cons, List.map_nil, List.getD_cons_zero, List.getD_cons_succ, Array.toList] at hS
    have hb0 := hS.blk 0 rfl
    go_wp2
    have hbl := hS.below
    refine ⟨by simp, _, ?_, (by rw [HR2.out]), hbl⟩
    refine results_row_tmp (p := 2) (u := 3) rfl _ w2 w.heap.size 26 _ (0, 0) _ ?_ hb0 Tryd.underlying26 rfl (by rw [hzs]; exact info20)
    rfl
end Go.Proofs.YtehbpibpbfomhaaDoor
