/- What the closure of 'sha.Sum' does to the five numbers: one block more. -/
import Derived.Test.YtjdlngbobnknmaaDoorShaFn
import Derived.Test.YtjdlngbobnknmaaDoorHexGen
import Derived.Test.YtjdlngbobnknmaaDoorSepF
import Derived.BigRegion
import Derived.Deep.RegionHeld3
import Derived.StillTailTactics
namespace Go.Proofs.YtjdlngbobnknmaaDoor
set_option linter.all false
open Go.RowKit

def u32v (n : Nat) : Value := .int .u32 (n : Int)
def stCells (s : ShSt) : Array Value := #[.int .u32 (s.a : Int), .int .u32 (s.b : Int), .int .u32 (s.c : Int), .int .u32 (s.d : Int), .int .u32 (s.e : Int)]
/-- The row of 80 words, of which L are known. -/
def wArr (L : List Nat) : Array Value := (L.map u32v ++ List.replicate (80 - L.length) (Value.int .u32 0)).toArray
theorem wArr_at (L : List Nat) (i : Nat) (hi : i < L.length) : (wArr L)[i]? = some (.int .u32 ((L.getD i 0 : Nat) : Int)) := by
  unfold wArr
  simp [List.getElem?_append_left (show i < (L.map u32v).length by simpa using hi), hi, u32v, List.getD_eq_getElem?_getD]
theorem wArr_at2 (L : List Nat) (i : Nat) (hi : i < 80) (hL : L.length ≤ 80) : ∃ v, (wArr L)[i]? = some v := by
  have : i < (wArr L).size := by unfold wArr; simp; omega
  exact ⟨_, Array.getElem?_eq_getElem this⟩
theorem wArr_set (L : List Nat) (x : Nat) (hL : L.length < 80) : (wArr L).setIfInBounds L.length (.int .u32 (x : Int)) = wArr (L ++ [x]) := by
  unfold wArr
  rw [List.setIfInBounds_toArray]
  congr 1
  have e : 80 - L.length = (80 - (L ++ [x]).length) + 1 := by simp; omega
  rw [e, List.replicate_succ, List.set_append]
  simp [u32v]
theorem wArr_nil : wArr [] = (List.replicate 80 (Value.int .u32 0)).toArray := by unfold wArr; simp

theorem Rd.atS {w : World} {b o : Nat} {l : List UInt8} (h : Rd w (some ⟨b, o, none⟩) l) : ∀ k, k < l.length → w.cell? ⟨b, o + k, none⟩ = some (.int .u8 (at8 l k)) := by
  intro k hk
  obtain ⟨b2, o2, e, hc⟩ := h (by omega)
  cases e
  exact hc k hk
theorem word_bits (p : List UInt8) (k : Nat) :
    bits .or .u32 (bits .or .u32 (bits .or .u32 (at8 p (4 * k) % 4294967296 * 16777216 % 4294967296) (at8 p (4 * k + 1) % 4294967296 * 65536 % 4294967296)) (at8 p (4 * k + 2) % 4294967296 * 256 % 4294967296)) (at8 p (4 * k + 3) % 4294967296) = ((word p k : Nat) : Int) := by
  have a0 := (p.getD (4 * k) 0).toNat_lt
  have a1 := (p.getD (4 * k + 1) 0).toNat_lt
  have a2 := (p.getD (4 * k + 2) 0).toNat_lt
  have a3 := (p.getD (4 * k + 3) 0).toNat_lt
  unfold at8 word
  generalize (p.getD (4 * k) 0).toNat = x0 at *
  generalize (p.getD (4 * k + 1) 0).toNat = x1 at *
  generalize (p.getD (4 * k + 2) 0).toNat = x2 at *
  generalize (p.getD (4 * k + 3) 0).toNat = x3 at *
  have e0 : (x0 : Int) % 4294967296 * 16777216 % 4294967296 = ((x0 * 16777216 : Nat) : Int) := by omega
  have e1 : (x1 : Int) % 4294967296 * 65536 % 4294967296 = ((x1 * 65536 : Nat) : Int) := by omega
  have e2 : (x2 : Int) % 4294967296 * 256 % 4294967296 = ((x2 * 256 : Nat) : Int) := by omega
  have e3 : (x3 : Int) % 4294967296 = (x3 : Int) := by omega
  have j1 : x0 * 16777216 ||| x1 * 65536 = x0 * 16777216 + x1 * 65536 := nat_join 24 _ _ (by omega) (by omega)
  have j2 : x0 * 16777216 + x1 * 65536 ||| x2 * 256 = x0 * 16777216 + x1 * 65536 + x2 * 256 := nat_join 16 _ _ (by omega) (by omega)
  have j3 : x0 * 16777216 + x1 * 65536 + x2 * 256 ||| x3 = x0 * 16777216 + x1 * 65536 + x2 * 256 + x3 := nat_join 8 _ _ (by omega) (by omega)
  rw [e0, e1, e2, e3, u32_or_nat _ _ (by omega) (by omega), j1, u32_or_nat _ _ (by omega) (by omega), j2, u32_or_nat _ _ (by omega) (by omega), j3]
theorem xor4_bits (a b c d : Nat) (ha : a < 4294967296) (hb : b < 4294967296) (hc : c < 4294967296) (hd : d < 4294967296) :
    bits .xor .u32 (bits .xor .u32 (bits .xor .u32 (a : Int) (b : Int)) (c : Int)) (d : Int) = ((a ^^^ b ^^^ c ^^^ d : Nat) : Int) := by
  rw [u32_xor_nat a b ha hb, u32_xor_nat _ c (Nat.xor_lt_two_pow (n := 32) ha hb) hc, u32_xor_nat _ d (Nat.xor_lt_two_pow (n := 32) (Nat.xor_lt_two_pow (n := 32) ha hb) hc) hd]
theorem info80 : (Tryd.prog.info? 49).map (fun i => i.size) = some 80 := by kernel_rfl
theorem index80 (L : List Nat) (j : Nat) (hl : L.length = 80) (hj : j < 80) (w : World) : (Instr.index 49 (.agg (wArr L)) (.int .i64 (j : Int))).run Tryd.prog w = .ok (.int .u32 ((L.getD j 0 : Nat) : Int)) w := by
  have h1 := wArr_at L j (by omega)
  have e : (wArr L).size = 80 := by unfold wArr; simp; omega
  have hz : (0 : Int) ≤ (j : Int) := by omega
  have hw : IntKind.i64.wrap (j : Int) = j := IntWalk.i64_in _ (by omega)
  have hj2 : (j : Int) < 80 := by omega
  simp [go_sem, Instr.index, h1, e, run_underlying Tryd.underlying49, hw, hz, hj2]
  omega
theorem zero80 (w : World) : (zeroValue 49).run Tryd.prog w = .ok (.agg (wArr [])) w := by
  rw [wArr_nil]; kernel_rfl

/-- The five sums, of which k are made. -/
def mixCells (k : Nat) (h s : ShSt) : Array Value :=
  #[.int .u32 ((if 0 < k then (h.a + s.a) % 4294967296 else h.a : Nat) : Int), .int .u32 ((if 1 < k then (h.b + s.b) % 4294967296 else h.b : Nat) : Int), .int .u32 ((if 2 < k then (h.c + s.c) % 4294967296 else h.c : Nat) : Int), .int .u32 ((if 3 < k then (h.d + s.d) % 4294967296 else h.d : Nat) : Int), .int .u32 ((if 4 < k then (h.e + s.e) % 4294967296 else h.e : Nat) : Int)]

set_option maxHeartbeats 1000000 in
set_option maxRecDepth 100000 in
theorem shaBlock (Ap : Option Addr) (cp gh : Nat) (p : List UInt8) (h : ShSt) (w : World) (hp : p.length = 64) (hr : Rd w Ap p) (hcp : 64 ≤ cp) (hcm : cp ≤ 9223372036854775807) (hne : ablk Ap ≠ some gh) (hb : Blk w gh 48 (stCells h)) (hok : h.ok) :
    Calls Tryd.prog 24 #[.slice Ap 64 cp, .pointer (some ⟨gh, 0, none⟩)] w fun e w' => (∃ v, e = .returned v) ∧ Blk w' gh 48 (stCells (blockStep p h)) ∧ w.grownBy w' (some gh) := by
  obtain ⟨bp, op, rfl, hbp, hcell⟩ := hr.at_ (by omega)
  have hS := (SepF.start (fun k => k = gh) w).old hb rfl (fun i y hy => by simp at hy)
  have Hcell := hide hcell
  clear hcell
  have hz := zero80
  go_enter Tryd.func24, Tryd.ntmps24
  go_wp2_with (at_builtin; refine stopAt ?_)
  replace hS := hS.allocC (wArr []) 49
  simp only [List.cons_append, List.nil_append, List.set_cons_zero, List.set_cons_succ, List.map_cons, List.map_nil, List.getD_cons_zero, List.getD_cons_succ, Array.toList] at hS
  go_loopw [13] (fun i wr => ∃ k : Nat, k ≤ 16 ∧ i = .int .i64 k ∧ SepF (fun k => k = gh) w wr [.blk gh 48 (stCells h), .blk w.heap.size 49 (wArr ((first16 p).take k))])
    (fun i _ => 16 - (intOf i).toNat)
  case atStart => exact ⟨0, by omega, rfl, hS⟩
  case round =>
    clear hS
    obtain ⟨k, hk, rfl, hS⟩ := hrel
    by_cases hlt : k < 16
    · skip
      go_wp2_with (at_builtin; refine stopAt ?_)
      have g0 := hS.old_rd hr (fun k hk => fun e => hne (by rw [hk, e]))
      have hc := g0.atS
      have c0 := hc (4 * k) (by omega)
      have c1 := hc (4 * k + 1) (by omega)
      have c2 := hc (4 * k + 2) (by omega)
      have c3 := hc (4 * k + 3) (by omega)
      have hl : ((first16 p).take k).length = k := by simp [first16]; omega
      obtain ⟨v, hv⟩ := wArr_at2 ((first16 p).take k) k (by omega) (by omega)
      have cw := hS.cell 1 k rfl hv
      have fw := hS.frozen 1 k rfl
      have hwd := word_bits p k
      clear hc
      go_region
      replace hS := (hS.store 1 (j := k) rfl (.int .u32 ((word p k : Nat) : Int))).drew
      simp only [List.cons_append, List.nil_append, List.set_cons_zero, List.set_cons_succ, List.map_cons, List.map_nil, List.getD_cons_zero, List.getD_cons_succ, Array.toList] at hS
      have hset := wArr_set ((first16 p).take k) (word p k) (by omega)
      rw [hl, ← first16_take p k hlt] at hset
      rw [hset] at hS
      clear hset g0 c0 c1 c2 c3 hv cw fw hwd
      generalize (wr.setCell _ _).drew = wz at hS ⊢
      go_wp2
      go_roundw
      case rel => exact ⟨k + 1, by omega, by go_num, hS⟩
      case measure => simp [intOf]; omega
    · have hge16 : (16 : Int) ≤ (k : Int) := by omega
      rw [List.take_of_length_le (by simp [first16]; omega)] at hS
      clear hk
      go_wp2_with (at_builtin; refine stopAt ?_)
      have hl16 : (first16 p).length = 16 := by simp [first16]
      go_loopw [5] (fun i wr => ∃ L : List Nat, L.length ≤ 80 ∧ 16 ≤ L.length ∧ i = .int .i64 L.length ∧ allLt L ∧ Hid (sched p = ext (80 - L.length) L) ∧ SepF (fun k => k = gh) w wr [.blk gh 48 (stCells h), .blk w.heap.size 49 (wArr L)])
        (fun i _ => 80 - (intOf i).toNat)
      case atStart => exact ⟨first16 p, by omega, by omega, by rw [hl16]; rfl, first16_lt p, hide (by rw [hl16, sched_def]), hS⟩
      case round =>
        clear hS hl16
        obtain ⟨L, hL80, hL16, rfl, hall, HE, hS⟩ := hrel
        by_cases hlt : L.length < 80
        · skip
          have c3 := hS.cell 1 (L.length - 3) rfl (wArr_at L _ (by omega))
          have c8 := hS.cell 1 (L.length - 8) rfl (wArr_at L _ (by omega))
          have c14 := hS.cell 1 (L.length - 14) rfl (wArr_at L _ (by omega))
          have c16 := hS.cell 1 (L.length - 16) rfl (wArr_at L _ (by omega))
          obtain ⟨v, hv⟩ := wArr_at2 L L.length (by omega) (by omega)
          have cw := hS.cell 1 L.length rfl hv
          have fw := hS.frozen 1 L.length rfl
          have st := fun x => hS.store 1 (j := L.length) rfl x
          have dd : ∀ (x : Value) (i : Nat), i < L.length → (wr.setCell ⟨w.heap.size, L.length, none⟩ x).cell? ⟨w.heap.size, i, none⟩ = some (.int .u32 ((L.getD i 0 : Nat) : Int)) := fun x i hi =>
            (st x).cell 1 i rfl (by rw [Array.getElem?_setIfInBounds_ne (by omega)]; exact wArr_at L i hi)
          have d3 := fun x => dd x (L.length - 3) (by omega)
          have d8 := fun x => dd x (L.length - 8) (by omega)
          have d14 := fun x => dd x (L.length - 14) (by omega)
          have d16 := fun x => dd x (L.length - 16) (by omega)
          have y3 : IntKind.i64.wrap ((L.length : Int) - 3) = (L.length : Int) - 3 := IntWalk.i64_in _ (by omega)
          have y8 : IntKind.i64.wrap ((L.length : Int) - 8) = (L.length : Int) - 8 := IntWalk.i64_in _ (by omega)
          have y14 : IntKind.i64.wrap ((L.length : Int) - 14) = (L.length : Int) - 14 := IntWalk.i64_in _ (by omega)
          have y16 : IntKind.i64.wrap ((L.length : Int) - 16) = (L.length : Int) - 16 := IntWalk.i64_in _ (by omega)
          have z3 : 0 ≤ (L.length : Int) - 3 := by omega
          have q3 : (L.length : Int) - 3 < 80 := by omega
          have a3 : (3 : Int) ≤ (L.length : Int) := by omega
          have b3 : 3 ≤ L.length := by omega
          have z8 : 0 ≤ (L.length : Int) - 8 := by omega
          have q8 : (L.length : Int) - 8 < 80 := by omega
          have a8 : (8 : Int) ≤ (L.length : Int) := by omega
          have b8 : 8 ≤ L.length := by omega
          have z14 : 0 ≤ (L.length : Int) - 14 := by omega
          have q14 : (L.length : Int) - 14 < 80 := by omega
          have a14 : (14 : Int) ≤ (L.length : Int) := by omega
          have b14 : 14 ≤ L.length := by omega
          have z16 : 0 ≤ (L.length : Int) - 16 := by omega
          have q16 : (L.length : Int) - 16 < 80 := by omega
          have a16 : (16 : Int) ≤ (L.length : Int) := by omega
          have b16 : 16 ≤ L.length := by omega
          have t3 : ((L.length : Int) - 3).toNat = L.length - 3 := by omega
          have t8 : ((L.length : Int) - 8).toNat = L.length - 8 := by omega
          have t14 : ((L.length : Int) - 14).toNat = L.length - 14 := by omega
          have t16 : ((L.length : Int) - 16).toNat = L.length - 16 := by omega
          have hlt2 : (L.length : Int) < 80 := by omega
          have hx := xor4_bits _ _ _ _ (hall.getD (L.length - 3)) (hall.getD (L.length - 8)) (hall.getD (L.length - 14)) (hall.getD (L.length - 16))
          have HX := hide (show L.getD (L.length - 3) 0 ^^^ L.getD (L.length - 8) 0 ^^^ L.getD (L.length - 14) 0 ^^^ L.getD (L.length - 16) 0 < 4294967296 from Nat.xor_lt_two_pow (n := 32) (Nat.xor_lt_two_pow (n := 32) (Nat.xor_lt_two_pow (n := 32) (hall.getD _) (hall.getD _)) (hall.getD _)) (hall.getD _))
          have HN := hide (nextW_def L L.length)
          have Hall := hide hall
          have HnL := hide (nextW_lt L L.length hall)
          clear st dd hall
          generalize L.getD (L.length - 3) 0 = x3 at *
          generalize L.getD (L.length - 8) 0 = x8 at *
          generalize L.getD (L.length - 14) 0 = x14 at *
          generalize L.getD (L.length - 16) 0 = x16 at *
          have rr := fun w => rotL1 (x3 ^^^ x8 ^^^ x14 ^^^ x16) w HX.out
          have RR := hide rr
          clear rr
          generalize x3 ^^^ x8 ^^^ x14 ^^^ x16 = X at *
          go_wp2_with (at_builtin; refine stopAt ?_)
          apply wp_meet
          · go_region_held3 (fun W' => W'.cell? ⟨w.heap.size, L.length - 3, none⟩ = some (.int .u32 (x3 : Int)) ∧ W'.cell? ⟨w.heap.size, L.length - 8, none⟩ = some (.int .u32 (x8 : Int)) ∧ W'.cell? ⟨w.heap.size, L.length - 14, none⟩ = some (.int .u32 (x14 : Int)) ∧ W'.cell? ⟨w.heap.size, L.length - 16, none⟩ = some (.int .u32 (x16 : Int))) (first | exact ⟨c3, c8, c14, c16⟩ | exact ⟨d3 _, d8 _, d14 _, d16 _⟩) (first | (go_at_call 25; (with_reducible refine (RR.out _).mono ?_); rintro e w' ⟨rfl, rfl⟩))
            all_goals exact ⟨rfl, rfl, rfl⟩
          replace hS := (hS.store 1 (j := L.length) rfl (.int .u32 ((rot X 1 : Nat) : Int))).drew
          simp only [List.cons_append, List.nil_append, List.set_cons_zero, List.set_cons_succ, List.map_cons, List.map_nil, List.getD_cons_zero, List.getD_cons_succ, Array.toList] at hS
          rw [wArr_set L (rot X 1) hlt] at hS
          clear c3 c8 c14 c16 hv cw fw d3 d8 d14 d16 y3 y8 y14 y16 z3 z8 z14 z16 q3 q8 q14 q16 a3 a8 a14 a16 b3 b8 b14 b16 t3 t8 t14 t16 hx RR
          generalize (wr.setCell _ _).drew = wz at hS ⊢
          go_wp2
          go_roundw
          case rel =>
            refine ⟨L ++ [rot X 1], by simp; omega, by simp; omega, by simp, ?_, hide ?_, hS⟩
            · intro y hy
              rcases List.mem_append.1 hy with h1 | h1
              · exact Hall.out y h1
              · rw [List.mem_singleton.1 h1, ← HN.out]; exact HnL.out
            · rw [HE.out, show 80 - L.length = (80 - (L ++ [rot X 1]).length) + 1 by simp; omega]
              rw [ext_succ, HN.out]
          case measure => simp [intOf]; omega
        · have hl80 : L.length = 80 := by omega
          have hs0 := HE.out
          rw [hl80] at hs0
          rw [Nat.sub_self, ext_zero] at hs0
          have HS := hide hs0
          have Hl80 := hide hl80
          clear hs0 hL80 hL16 hlt HE
          have g0 : wr.cell? ⟨gh, 0, none⟩ = some (.int .u32 (h.a : Int)) := hS.cell 0 0 rfl rfl
          have g1 : wr.cell? ⟨gh, 1, none⟩ = some (.int .u32 (h.b : Int)) := hS.cell 0 1 rfl rfl
          have g2 : wr.cell? ⟨gh, 2, none⟩ = some (.int .u32 (h.c : Int)) := hS.cell 0 2 rfl rfl
          have g3 : wr.cell? ⟨gh, 3, none⟩ = some (.int .u32 (h.d : Int)) := hS.cell 0 3 rfl rfl
          have g4 : wr.cell? ⟨gh, 4, none⟩ = some (.int .u32 (h.e : Int)) := hS.cell 0 4 rfl rfl
          have hge : (80 : Int) ≤ (L.length : Int) := by omega
          clear hl80
          go_wp2_with (first | (at_builtin; refine stopAt ?_) | (with_reducible refine wpList_stop_load (ty := 49) (x := .tmp 3) rfl ?_))
          have hcs : (#[.int .u32 (h.a : Int), .int .u32 (h.b : Int), .int .u32 (h.c : Int), .int .u32 (h.d : Int), .int .u32 (h.e : Int)] : Array Value) = stCells h := rfl
          rw [hcs]
          clear hcs
          replace hS := hS.allocC (stCells h) 48
          simp only [List.cons_append, List.nil_append, List.set_cons_zero, List.set_cons_succ, List.map_cons, List.map_nil, List.getD_cons_zero, List.getD_cons_succ, Array.toList] at hS
          clear g0 g1 g2 g3 g4 hge hge16
          generalize wr.heap.size = ga at *
          generalize wr.alloc (.cells (stCells h) 48) = W2 at *
          refine unstop (wpList_load_row rfl 49 (.tmp 3) rfl w.heap.size rfl 49 (wArr L) (0, 0) _ (hS.blk 1 rfl) Tryd.underlying49 rfl (by
            have e : (wArr L).size = 80 := by unfold wArr; have := Hl80.out; simp; omega
            rw [e]; exact info80) ?_)
          go_wp2_with (at_builtin; refine stopAt ?_)
          go_loopw [80] (fun i wr => ∃ (k : Nat) (s : ShSt), k ≤ 80 ∧ i = .int .i64 k ∧ s.ok ∧ Hid (rnds 0 L h = rnds k (L.drop k) s) ∧ SepF (fun k => k = gh) w wr [.blk gh 48 (stCells h), .blk w.heap.size 49 (wArr L), .blk ga 48 (stCells s)])
            (fun i _ => 80 - (intOf i).toNat)
          case atStart => exact ⟨0, h, by omega, rfl, hok, hide (by rw [List.drop_zero]), hS⟩
          case round =>
            clear hS
            obtain ⟨j, s, hj, rfl, hsok, HR, hS⟩ := hrel
            by_cases hj80 : j < 80
            · skip
              obtain ⟨k1, k2, k3, k4, k5⟩ := hsok
              have HX := hide (hall.getD j)
              have HR2 := hide (show rnds 0 L h = rnds (j + 1) (L.drop (j + 1)) (rnd j (L.getD j 0) s) by
                have hjl : j < L.length := by have := Hl80.out; omega
                rw [HR.out, rnds_at L j j s hjl, List.getD_eq_getElem?_getD, List.getElem?_eq_getElem hjl]; rfl)
              have hix := index80 L j Hl80.out hj80
              have g0 : wr.cell? ⟨ga, 0, none⟩ = some (.int .u32 (s.a : Int)) := hS.cell 2 0 rfl rfl
              have g1 : wr.cell? ⟨ga, 1, none⟩ = some (.int .u32 (s.b : Int)) := hS.cell 2 1 rfl rfl
              have g2 : wr.cell? ⟨ga, 2, none⟩ = some (.int .u32 (s.c : Int)) := hS.cell 2 2 rfl rfl
              have g3 : wr.cell? ⟨ga, 3, none⟩ = some (.int .u32 (s.d : Int)) := hS.cell 2 3 rfl rfl
              have g4 : wr.cell? ⟨ga, 4, none⟩ = some (.int .u32 (s.e : Int)) := hS.cell 2 4 rfl rfl
              generalize L.getD j 0 = x at *
              have hPart := hide (shaPart j s.b s.c s.d wr hj80 k2 k3 k4)
              have hF := stepF_lt j s.b s.c s.d k2 k3 k4
              have hK := stepK_lt j
              go_wp2_with (at_builtin; refine stopAt ?_)
              refine hPart.out.mono ?_
              rintro e w' ⟨rfl, rfl⟩
              have R5 := hide (fun w => rotL5 s.a w k1)
              have R30 := hide (fun w => rotL30 s.b w k2)
              go_wp2_with (at_builtin; refine stopAt ?_)
              apply wp_meet
              · go_region_held3 (fun W' => W'.cell? ⟨ga, 0, none⟩ = some (.int .u32 (s.a : Int)) ∧ W'.cell? ⟨ga, 1, none⟩ = some (.int .u32 (s.b : Int)) ∧ W'.cell? ⟨ga, 2, none⟩ = some (.int .u32 (s.c : Int)) ∧ W'.cell? ⟨ga, 3, none⟩ = some (.int .u32 (s.d : Int)) ∧ W'.cell? ⟨ga, 4, none⟩ = some (.int .u32 (s.e : Int))) (exact ⟨g0, g1, g2, g3, g4⟩) (first | (go_at_call 25; (with_reducible refine (R5.out _).mono ?_); rintro e w' ⟨rfl, rfl⟩))
                all_goals exact ⟨rfl, rfl, rfl⟩
              have hsum : IntKind.u32.wrap (IntKind.u32.wrap (IntKind.u32.wrap (IntKind.u32.wrap (((rot s.a 5 : Nat) : Int) + ((stepF j s.b s.c s.d : Nat) : Int)) + (s.e : Int)) + ((stepK j : Nat) : Int)) + (x : Int)) = (((rnd j x s).a : Nat) : Int) := by
                simp only [IntKind.wrap_u32', rnd]
                omega
              rw [hsum]
              have hta := hide (rnd_ok j x s ⟨k1, k2, k3, k4, k5⟩)
              have hstc := hide (show (#[.int .u32 (((rnd j x s).a : Nat) : Int), .int .u32 (s.a : Int), .int .u32 ((rot s.b 30 : Nat) : Int), .int .u32 (s.c : Int), .int .u32 (s.d : Int)] : Array Value) = stCells (rnd j x s) from rfl)
              clear hsum hF hK
              generalize (rnd j x s).a = ta at *
              replace hS := hS.drew
              generalize wr.drew = w5 at *
              have q0 : w5.cell? ⟨ga, 0, none⟩ = some (.int .u32 (s.a : Int)) := hS.cell 2 0 rfl rfl
              have q1 : w5.cell? ⟨ga, 1, none⟩ = some (.int .u32 (s.b : Int)) := hS.cell 2 1 rfl rfl
              have q2 : w5.cell? ⟨ga, 2, none⟩ = some (.int .u32 (s.c : Int)) := hS.cell 2 2 rfl rfl
              have q3 : w5.cell? ⟨ga, 3, none⟩ = some (.int .u32 (s.d : Int)) := hS.cell 2 3 rfl rfl
              clear g0 g1 g2 g3 g4
              go_wp2_with (at_builtin; refine stopAt ?_)
              go_still_tail 11, (by kernel_rfl)
              still_call ((R30.out _).mono fun _ _ h => ⟨h.1, h.2.symm⟩)
              repeat still_step
              refine wpStill_nil ?_
              change wpList _ _ _ _ _ w5.drew
              replace hS := hS.drew
              clear q0 q1 q2 q3
              generalize w5.drew = w6 at *
              have g0 : w6.cell? ⟨ga, 0, none⟩ = some (.int .u32 (s.a : Int)) := hS.cell 2 0 rfl rfl
              have g1 : w6.cell? ⟨ga, 1, none⟩ = some (.int .u32 (s.b : Int)) := hS.cell 2 1 rfl rfl
              have g2 : w6.cell? ⟨ga, 2, none⟩ = some (.int .u32 (s.c : Int)) := hS.cell 2 2 rfl rfl
              have g3 : w6.cell? ⟨ga, 3, none⟩ = some (.int .u32 (s.d : Int)) := hS.cell 2 3 rfl rfl
              have g4 : w6.cell? ⟨ga, 4, none⟩ = some (.int .u32 (s.e : Int)) := hS.cell 2 4 rfl rfl
              have f0 := hS.frozen 2 0 rfl
              have f1 := hS.frozen 2 1 rfl
              have f2 := hS.frozen 2 2 rfl
              have f3 := hS.frozen 2 3 rfl
              have f4 := hS.frozen 2 4 rfl
              go_wp2_with (at_builtin; refine stopAt ?_)
              go_roundw
              case rel =>
                replace hS := ((((hS.store 2 (j := 0) rfl (.int .u32 (ta : Int))).store 2 (j := 1) rfl (.int .u32 (s.a : Int))).store 2 (j := 2) rfl (.int .u32 ((rot s.b 30 : Nat) : Int))).store 2 (j := 3) rfl (.int .u32 (s.c : Int))).store 2 (j := 4) rfl (.int .u32 (s.d : Int))
                unfold stCells at hS
                simp only [List.set_cons_zero, List.set_cons_succ, List.setIfInBounds_toArray] at hS
                rw [hstc.out] at hS
                exact ⟨j + 1, rnd j x s, by omega, by go_num, hta.out, HR2, hS⟩
              case measure => simp [intOf]; omega
            · have hjl : L.length ≤ j := by have := Hl80.out; omega
              have hfin := HR.out
              rw [List.drop_eq_nil_of_le hjl, rnds_nil, ← HS.out] at hfin
              have hjge : (80 : Int) ≤ (j : Int) := by omega
              have HB := hide (blockStep_def p h)
              rw [hfin] at HB
              clear HR hj hj80 hjl HS hall Hl80 hfin
              go_wp2_with (at_builtin; refine stopAt ?_)
              go_loopw [119] (fun i wr => ∃ k : Nat, k ≤ 5 ∧ i = .int .i64 k ∧ SepF (fun k => k = gh) w wr [.blk gh 48 (mixCells k h s), .blk ga 48 (stCells s)])
                (fun i _ => 5 - (intOf i).toNat)
              case atStart => exact ⟨0, by omega, rfl, by
                have hS := hS.pick [0, 2] (by decide); simp only [List.cons_append, List.nil_append, List.set_cons_zero, List.set_cons_succ, List.map_cons, List.map_nil, List.getD_cons_zero, List.getD_cons_succ] at hS
                exact hS⟩
              case round =>
                clear hS
                obtain ⟨k, hk, rfl, hS⟩ := hrel
                have a0 : wr.cell? ⟨ga, 0, none⟩ = some (.int .u32 (s.a : Int)) := hS.cell 1 0 rfl rfl
                have a1 : wr.cell? ⟨ga, 1, none⟩ = some (.int .u32 (s.b : Int)) := hS.cell 1 1 rfl rfl
                have a2 : wr.cell? ⟨ga, 2, none⟩ = some (.int .u32 (s.c : Int)) := hS.cell 1 2 rfl rfl
                have a3 : wr.cell? ⟨ga, 3, none⟩ = some (.int .u32 (s.d : Int)) := hS.cell 1 3 rfl rfl
                have a4 : wr.cell? ⟨ga, 4, none⟩ = some (.int .u32 (s.e : Int)) := hS.cell 1 4 rfl rfl
                match k, hk with
                | 0, _ =>
                  have g0 : wr.cell? ⟨gh, 0, none⟩ = some (.int .u32 (h.a : Int)) := hS.cell 0 0 rfl rfl
                  have f0 := hS.frozen 0 0 rfl
                  have hsm : IntKind.u32.wrap ((h.a : Int) + (s.a : Int)) = ((h.a : Int) + (s.a : Int)) % 4294967296 := IntKind.wrap_u32' _
                  go_wp2_with (at_builtin; refine stopAt ?_)
                  go_region
                  replace hS := (hS.store 0 (j := 0) rfl (.int .u32 (((h.a : Int) + (s.a : Int)) % 4294967296))).drew
                  simp only [List.cons_append, List.nil_append, List.set_cons_zero, List.set_cons_succ, List.map_cons, List.map_nil, List.getD_cons_zero, List.getD_cons_succ, Array.toList] at hS
                  have hmx : (mixCells 0 h s).setIfInBounds 0 (.int .u32 (((h.a : Int) + (s.a : Int)) % 4294967296)) = mixCells (0 + 1) h s := by
                    have e : ((h.a : Int) + (s.a : Int)) % 4294967296 = (((h.a + s.a) % 4294967296 : Nat) : Int) := by omega
                    rw [e]; rfl
                  rw [hmx] at hS
                  clear g0 f0 hsm hmx a0 a1 a2 a3 a4
                  generalize (wr.setCell _ _).drew = wz at hS ⊢
                  go_wp2
                  go_roundw
                  case rel => exact ⟨0 + 1, by omega, rfl, hS⟩
                  case measure => simp [intOf]
                | 1, _ =>
                  have g0 : wr.cell? ⟨gh, 1, none⟩ = some (.int .u32 (h.b : Int)) := hS.cell 0 1 rfl rfl
                  have f0 := hS.frozen 0 1 rfl
                  have hsm : IntKind.u32.wrap ((h.b : Int) + (s.b : Int)) = ((h.b : Int) + (s.b : Int)) % 4294967296 := IntKind.wrap_u32' _
                  go_wp2_with (at_builtin; refine stopAt ?_)
                  go_region
                  replace hS := (hS.store 0 (j := 1) rfl (.int .u32 (((h.b : Int) + (s.b : Int)) % 4294967296))).drew
                  simp only [List.cons_append, List.nil_append, List.set_cons_zero, List.set_cons_succ, List.map_cons, List.map_nil, List.getD_cons_zero, List.getD_cons_succ, Array.toList] at hS
                  have hmx : (mixCells 1 h s).setIfInBounds 1 (.int .u32 (((h.b : Int) + (s.b : Int)) % 4294967296)) = mixCells (1 + 1) h s := by
                    have e : ((h.b : Int) + (s.b : Int)) % 4294967296 = (((h.b + s.b) % 4294967296 : Nat) : Int) := by omega
                    rw [e]; rfl
                  rw [hmx] at hS
                  clear g0 f0 hsm hmx a0 a1 a2 a3 a4
                  generalize (wr.setCell _ _).drew = wz at hS ⊢
                  go_wp2
                  go_roundw
                  case rel => exact ⟨1 + 1, by omega, rfl, hS⟩
                  case measure => simp [intOf]
                | 2, _ =>
                  have g0 : wr.cell? ⟨gh, 2, none⟩ = some (.int .u32 (h.c : Int)) := hS.cell 0 2 rfl rfl
                  have f0 := hS.frozen 0 2 rfl
                  have hsm : IntKind.u32.wrap ((h.c : Int) + (s.c : Int)) = ((h.c : Int) + (s.c : Int)) % 4294967296 := IntKind.wrap_u32' _
                  go_wp2_with (at_builtin; refine stopAt ?_)
                  go_region
                  replace hS := (hS.store 0 (j := 2) rfl (.int .u32 (((h.c : Int) + (s.c : Int)) % 4294967296))).drew
                  simp only [List.cons_append, List.nil_append, List.set_cons_zero, List.set_cons_succ, List.map_cons, List.map_nil, List.getD_cons_zero, List.getD_cons_succ, Array.toList] at hS
                  have hmx : (mixCells 2 h s).setIfInBounds 2 (.int .u32 (((h.c : Int) + (s.c : Int)) % 4294967296)) = mixCells (2 + 1) h s := by
                    have e : ((h.c : Int) + (s.c : Int)) % 4294967296 = (((h.c + s.c) % 4294967296 : Nat) : Int) := by omega
                    rw [e]; rfl
                  rw [hmx] at hS
                  clear g0 f0 hsm hmx a0 a1 a2 a3 a4
                  generalize (wr.setCell _ _).drew = wz at hS ⊢
                  go_wp2
                  go_roundw
                  case rel => exact ⟨2 + 1, by omega, rfl, hS⟩
                  case measure => simp [intOf]
                | 3, _ =>
                  have g0 : wr.cell? ⟨gh, 3, none⟩ = some (.int .u32 (h.d : Int)) := hS.cell 0 3 rfl rfl
                  have f0 := hS.frozen 0 3 rfl
                  have hsm : IntKind.u32.wrap ((h.d : Int) + (s.d : Int)) = ((h.d : Int) + (s.d : Int)) % 4294967296 := IntKind.wrap_u32' _
                  go_wp2_with (at_builtin; refine stopAt ?_)
                  go_region
                  replace hS := (hS.store 0 (j := 3) rfl (.int .u32 (((h.d : Int) + (s.d : Int)) % 4294967296))).drew
                  simp only [List.cons_append, List.nil_append, List.set_cons_zero, List.set_cons_succ, List.map_cons, List.map_nil, List.getD_cons_zero, List.getD_cons_succ, Array.toList] at hS
                  have hmx : (mixCells 3 h s).setIfInBounds 3 (.int .u32 (((h.d : Int) + (s.d : Int)) % 4294967296)) = mixCells (3 + 1) h s := by
                    have e : ((h.d : Int) + (s.d : Int)) % 4294967296 = (((h.d + s.d) % 4294967296 : Nat) : Int) := by omega
                    rw [e]; rfl
                  rw [hmx] at hS
                  clear g0 f0 hsm hmx a0 a1 a2 a3 a4
                  generalize (wr.setCell _ _).drew = wz at hS ⊢
                  go_wp2
                  go_roundw
                  case rel => exact ⟨3 + 1, by omega, rfl, hS⟩
                  case measure => simp [intOf]
                | 4, _ =>
                  have g0 : wr.cell? ⟨gh, 4, none⟩ = some (.int .u32 (h.e : Int)) := hS.cell 0 4 rfl rfl
                  have f0 := hS.frozen 0 4 rfl
                  have hsm : IntKind.u32.wrap ((h.e : Int) + (s.e : Int)) = ((h.e : Int) + (s.e : Int)) % 4294967296 := IntKind.wrap_u32' _
                  go_wp2_with (at_builtin; refine stopAt ?_)
                  go_region
                  replace hS := (hS.store 0 (j := 4) rfl (.int .u32 (((h.e : Int) + (s.e : Int)) % 4294967296))).drew
                  simp only [List.cons_append, List.nil_append, List.set_cons_zero, List.set_cons_succ, List.map_cons, List.map_nil, List.getD_cons_zero, List.getD_cons_succ, Array.toList] at hS
                  have hmx : (mixCells 4 h s).setIfInBounds 4 (.int .u32 (((h.e : Int) + (s.e : Int)) % 4294967296)) = mixCells (4 + 1) h s := by
                    have e : ((h.e : Int) + (s.e : Int)) % 4294967296 = (((h.e + s.e) % 4294967296 : Nat) : Int) := by omega
                    rw [e]; rfl
                  rw [hmx] at hS
                  clear g0 f0 hsm hmx a0 a1 a2 a3 a4
                  generalize (wr.setCell _ _).drew = wz at hS ⊢
                  go_wp2
                  go_roundw
                  case rel => exact ⟨4 + 1, by omega, rfl, hS⟩
                  case measure => simp [intOf]
                | 5, _ =>
                  go_wp2
                  have hbl : Blk wr gh 48 (stCells (blockStep p h)) := by
                    rw [HB.out]; exact hS.blk 0 rfl
                  have hgr := hS.kept.grown
                  clear hS
                  go_end0
                  exact ⟨⟨_, rfl⟩, hbl, hgr⟩
end Go.Proofs.YtjdlngbobnknmaaDoor
