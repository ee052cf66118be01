/- How the abstract machine's conditions are worked out, step by step. Over any program; no condition. -/
import Derived.Test.YtbefhofmbiedgaaA24
namespace Go.Proofs.Ytbefhofmbiedgaa
set_option linter.all false
open Go.RowKit

section
variable {Φ : Phi} {m id : Nat} {Q : Exit → St → Prop} {K : St → Prop} {s : St} {x y c : ACode} {l r : List AOper} {hid hs : Hid1} {h : Nat × Bool} {d : Option Nat} {op : AOp} {t : Nat} {b : Bool} {lens : List Nat} {cc : Opd}
theorem phiL_nil {f : FuncId} : phiL [] f = none := rfl
theorem phiL_at {g f : FuncId} {ms : List Bool × Spec} {r : List (FuncId × List Bool × Spec)} : phiL ((g, ms) :: r) f = if g = f then some ms else phiL r f := rfl
theorem awp_skip : awp Φ m .skip Q s = Q .normal s := rfl
theorem awp_reg : awp Φ m (.reg none l) Q s = arun Φ l (Q .normal) s := rfl
theorem awp_draw : awp Φ m (.reg (some hid) l) Q s = arunD Φ hid l [] (Q .normal) s := rfl
theorem awp_seq : awp Φ m (.seq x y) Q s = awp Φ m x (thenQ (awp Φ m y Q) Q) s := rfl
theorem awp_cond : awp Φ m (.cond cc x y) Q s = condQ (s.ev cc) (awp Φ m x Q s) (awp Φ m y Q s) := rfl
theorem awp_block : awp Φ m (.block id c) Q s = awp Φ m c (inQ id Q) s := rfl
theorem awp_loop : awp Φ m (.loop c) Q s = loopQ m (awp Φ m c) Q s := rfl
theorem awp_exit : awp Φ m (.exit id) Q s = Q (.exit id) s := rfl
theorem awp_ret : awp Φ m .ret Q s = Q .ret s := rfl
theorem arun_nil : arun Φ [] K s = K s := rfl
theorem arun_op : arun Φ (⟨d, op, none⟩ :: r) K s = aq (astep Φ s op) s d (arun Φ r K) := rfl
theorem arun_gd : arun Φ (⟨d, op, some (t, b)⟩ :: r) K s = gdQ (lk s.fr t) b (aq (astep Φ s op) (s.pin t b) d (arun Φ r K)) (arun Φ r K ((s.pin t (!b)).put d .top s.hp)) := rfl
theorem arunD_nil : arunD Φ hs [] lens K s = K s := by cases hs <;> rfl
theorem arunD_op : arunD Φ (h :: hs) (⟨d, op, none⟩ :: r) lens K s = aq (exD Φ h ⟨d, op, none⟩ (lens ++ [s.hp.length]) s) s d (arunD Φ hs r (lens ++ [s.hp.length]) K) := rfl
theorem arunD_gd : arunD Φ (h :: hs) (⟨d, op, some (t, b)⟩ :: r) lens K s =
    gdQ (lk s.fr t) b (aq (exD Φ h ⟨d, op, some (t, b)⟩ (lens ++ [s.hp.length]) s) (s.pin t b) d (arunD Φ hs r (lens ++ [s.hp.length]) K)) (arunD Φ hs r (lens ++ [s.hp.length]) K ((s.pin t (!b)).put d .top s.hp)) := rfl
theorem aq_some {z : AV} {hp : List AObj} {p : Prop} : aq (some (z, hp, p)) s d K = (p ∧ K (s.put d z hp)) := rfl
theorem gdQ_b {e : Bool} {p q : Prop} : gdQ (.bool e) b p q = ((e = b → p) ∧ (e = (!b) → q)) := rfl
theorem condQ_b {e : Bool} {p q : Prop} : condQ (.bool e) p q = ((e = true → p) ∧ (e = false → q)) := rfl
theorem thenQ_n {K : St → Prop} : thenQ K Q .normal s = K s := rfl
theorem thenQ_x {K : St → Prop} : thenQ K Q (.exit id) s = Q (.exit id) s := rfl
theorem thenQ_r {K : St → Prop} : thenQ K Q .ret s = Q .ret s := rfl
theorem inQ_n : inQ id Q .normal s = Q .normal s := rfl
theorem inQ_r : inQ id Q .ret s = Q .ret s := rfl
theorem inQ_x {i : Nat} : inQ id Q (.exit i) s = if i = id then Q .normal s else Q (.exit i) s := rfl
theorem retQ_n {rs : List ARes} {r : Ret} : retQ rs m r .normal s = finP m r s (aret s rs) := rfl
theorem retQ_r {rs : List ARes} {r : Ret} : retQ rs m r .ret s = finP m r s (aret s rs) := rfl
end
theorem getD_mapU {l : List UInt8} {k : Nat} : (l.map U).getD k (.int .u8 0) = U (l.getD k 0) := by
  simp only [List.getD_eq_getElem?_getD, List.getElem?_map]; cases l[k]? <;> rfl
theorem ofC_U {u : UInt8} : ofC (U u) = .int .u8 (u.toNat : Int) := rfl
theorem wrap8 {n : Int} (h : 0 ≤ n) (h' : n < 256) : IntKind.u8.wrap n = n := by
  simp [IntKind.wrap, IntKind.bits, IntKind.signed]; omega
theorem setAll_nil {hp os : List AObj} : setAll hp [] os = hp := by cases os <;> rfl
theorem setAll_cons {hp os : List AObj} {i : Nat} {is : List Nat} {o : AObj} : setAll hp (i :: is) (o :: os) = setAll (hp.set i o) is os := rfl
theorem take_succ' {l : List UInt8} {k : Nat} (h : k < l.length) : l.take (k + 1) = l.take k ++ [l.getD k 0] := by
  rw [List.take_succ, List.getElem?_eq_getElem h, List.getD_eq_getElem?_getD, List.getElem?_eq_getElem h]; rfl
theorem ub_int {n : Int} (h : 0 ≤ n) (h' : n < 256) : AV.int .u8 n = ub (UInt8.ofNat n.toNat) := by
  unfold ub; congr 1
  rw [UInt8.toNat_ofNat']; omega
theorem Bs_len {l : List UInt8} : (Bs l).length = l.length := by simp [Bs]
theorem getD_Bs {l : List UInt8} {k : Nat} : (Bs l).getD k (.int .u8 0) = .int .u8 ((l.getD k 0).toNat : Int) := by
  unfold Bs
  simp only [List.getD_eq_getElem?_getD, List.getElem?_map]; cases l[k]? <;> rfl
theorem ofC_i {k : IntKind} {n : Int} : ofC (.int k n) = .int k n := rfl
theorem ofC_b {b : Bool} : ofC (.bool b) = .bool b := rfl
theorem ofC_s {b : ByteArray} : ofC (.string b) = .str b.data.toList := rfl
end Go.Proofs.Ytbefhofmbiedgaa
