/- A call on abstract values: what a function's contract is, and what stands in the caller's heap behind it. Over any program; no condition. -/
import Derived.Test.YtbefhofmbiedgaaA14
namespace Go.Proofs.Ytbefhofmbiedgaa
set_option linter.all false
open Go.RowKit

structure Ret where
  v : AV
  hp : List AObj
  pre : Prop
abbrev Spec := List AV → List AObj → Option Ret
/-- A block of an object that is lent to a call. -/
def Lent (ρ : Rho) (hp : List AObj) (b : Nat) : Prop := ∃ (id : Nat) (o : AObj), hp[id]? = some o ∧ o.blk ρ id = some b
def ArgsOk (w : World) (S : Nat → Prop) (ρ : Rho) (as : List AV) (args : List Value) : Prop := args.length = as.length ∧ ∀ i, i < as.length → Vl w S ρ (as.getD i .top) (args.getD i undef)
/-- The function f does as sp says. -/
def FnOk (P : Program) (f : FuncId) (sp : Spec) : Prop := ∀ as hp r, sp as hp = some r → r.pre → ∀ (w : World) (S : Nat → Prop) (ρ : Rho) (args : List Value), HeapOk (Lent ρ hp) w S ρ hp w → ArgsOk w S ρ as args →
  Calls P f args.toArray w fun e w' => ∃ v S' ρ', e = .returned v ∧ Vl w' S' ρ' r.v v ∧ HeapOk (Lent ρ hp) w S' ρ' r.hp w' ∧ Ext w w' S S' ρ ρ' ∧ (∀ b, S' b → S b ∨ w.heap.size ≤ b ∨ Lent ρ hp b)

section
variable {F : Nat → Prop} {w0 w w' : World} {S Sc S' : Nat → Prop} {ρ ρc ρ' : Rho} {hp hpc rhp hp2 : List AObj} {τ : Nat → Option Nat}
open Classical in
/-- Where the objects lie behind a call. -/
noncomputable def rhoM (τ : Nat → Option Nat) (ρ ρ' : Rho) : Rho := fun k v => if h : ∃ j, τ j = some k then ρ' h.choose v else ρ k v
theorem rhoM_in (hinj : ∀ i j k, τ i = some k → τ j = some k → i = j) {j k : Nat} (h : τ j = some k) (v : Nat) : rhoM τ ρ ρ' k v = ρ' j v := by
  have hex : ∃ j, τ j = some k := ⟨j, h⟩
  unfold rhoM
  rw [dif_pos hex]
  have := hinj _ _ k hex.choose_spec h
  rw [this]
theorem rhoM_out {k : Nat} (h : ∀ j, τ j ≠ some k) (v : Nat) : rhoM τ ρ ρ' k v = ρ k v := by
  unfold rhoM
  rw [dif_neg (fun ⟨j, hj⟩ => h j hj)]

/-- What a call leaves, in the caller's heap. -/
theorem HeapOk.merge (H : HeapOk F w0 S ρ hp w) (Hc : HeapOk (Lent ρc hpc) w S' ρ' rhp w') (hS : ∀ b, S b → S' b) (hSw : ∀ b, S b → w'.heap[b]? = w.heap[b]?)
    (hinj : ∀ i j k, τ i = some k → τ j = some k → i = j)
    (hb : ∀ (k : Nat) (o : AObj), hp2[k]? = some o → (∃ j oc, rhp[j]? = some oc ∧ τ j = some k ∧ renObj τ oc = some o) ∨ (hp[k]? = some o ∧ ∀ j, τ j ≠ some k))
    (hlent : ∀ b, Lent ρc hpc b → ∃ (k : Nat) (o : AObj) (j : Nat), hp[k]? = some o ∧ o.blk ρ k = some b ∧ τ j = some k)
    (hτl : ∀ j k, τ j = some k → ∀ v L, ρ k v = some L → ρ' j v = some L) (hτb : ∀ j k, τ j = some k → k < hp2.length ∨ ∀ v, ρ' j v = none) (hlen : hp.length ≤ hp2.length)
    (hflat : (∀ b, S' b → S b ∨ w.heap.size ≤ b ∨ Lent ρc hpc b) ∨ ∀ (j : Nat) (o : AObj), rhp[j]? = some o → flatO o) :
    HeapOk F w0 (fun b => S' b ∧ (S b ∨ w.heap.size ≤ b ∨ Lent ρc hpc b)) (rhoM τ ρ ρ') hp2 w' ∧ Ext w w' S (fun b => S' b ∧ (S b ∨ w.heap.size ≤ b ∨ Lent ρc hpc b)) ρ (rhoM τ ρ ρ') := by
  have hloc : ∀ k v L, ρ k v = some L → rhoM τ ρ ρ' k v = some L := by
    intro k v L hk
    by_cases h : ∃ j, τ j = some k
    · obtain ⟨j, hj⟩ := h
      rw [rhoM_in hinj hj]; exact hτl j k hj v L hk
    · rw [rhoM_out (fun j hj => h ⟨j, hj⟩)]; exact hk
  have hE : Ext w w' S (fun b => S' b ∧ (S b ∨ w.heap.size ≤ b ∨ Lent ρc hpc b)) ρ (rhoM τ ρ ρ') := ⟨hSw, fun b hb => ⟨hS b hb, .inl hb⟩, hloc⟩
  have hσ : ∀ i j, τ i = some j → ∀ v L, ρ' i v = some L → rhoM τ ρ ρ' j v = some L := fun i j hij v L h => by rw [rhoM_in hinj hij]; exact h
  -- an object that the call has left
  have touched : ∀ {k j : Nat} {oc o : AObj}, rhp[j]? = some oc → τ j = some k → renObj τ oc = some o → ObjOk w' (fun b => S' b ∧ (S b ∨ w.heap.size ≤ b ∨ Lent ρc hpc b)) (rhoM τ ρ ρ') k o ∧ o.ver = oc.ver ∧ (∀ b, o.blk (rhoM τ ρ ρ') k = some b → oc.blk ρ' j = some b) := by
    intro k j oc o h1 h2 h3
    refine renObj_ok hσ h2 (fun v hv => by rw [rhoM_in hinj h2]; exact hv) h3 (Hc.ob j oc h1) (fun b _ hs => hs.1) ?_
    rcases hflat with hf | hf
    · exact .inl fun b hb => ⟨hb, hf b hb⟩
    · exact .inr (hf j oc h1)
  -- an object that it has not
  have out : ∀ {k : Nat} {o : AObj}, hp[k]? = some o → (∀ j, τ j ≠ some k) → ∀ b, o.blk ρ k = some b → b < w.heap.size ∧ ¬ Lent ρc hpc b := by
    intro k o h1 h2 b hbb
    refine ⟨(H.ob k o h1).lt b hbb, fun hl => ?_⟩
    obtain ⟨k2, o2, j, h3, h4, h5⟩ := hlent b hl
    exact H.apart k k2 o o2 (fun e => h2 j (e ▸ h5)) h1 h3 b hbb h4
  have keptC : Kept F w0 w' := by
    refine ⟨Hc.kept.os.trans H.kept.os, Hc.kept.tape.trans H.kept.tape, Hc.kept.output.trans H.kept.output, Nat.le_trans H.kept.size Hc.kept.size, fun i hi hn => ?_⟩
    rw [Hc.kept.block i (Nat.lt_of_lt_of_le hi H.kept.size) (fun hl => ?_)]
    · exact H.kept.block i hi hn
    · obtain ⟨k2, o2, j, h3, h4, h5⟩ := hlent i hl
      rcases H.mine k2 o2 h3 i h4 with h | h
      · exact hn h
      · omega
  refine ⟨⟨keptC, fun k o ho => ?_, fun i j x y hij hx hy b hxb hyb => ?_, fun k o ho b hbb => ?_, fun b hbb => Hc.slt b hbb.1, fun k hk v => ?_, fun k o ho v hv => ?_⟩, hE⟩
  · rcases hb k o ho with ⟨j, oc, h1, h2, h3⟩ | ⟨h1, h2⟩
    · exact (touched h1 h2 h3).1
    · refine (H.ob k o h1).keep hE (fun b hbb => ?_) (fun b hbb hs => ?_) (fun v hv => by rw [rhoM_out h2]; exact hv)
      · obtain ⟨k1, k2⟩ := out h1 h2 b hbb
        exact Hc.kept.block b k1 k2
      · obtain ⟨k1, k2⟩ := out h1 h2 b hbb
        rcases hs.2 with h | h | h
        · exact h
        · omega
        · exact absurd h k2
  · have side : ∀ {k j : Nat} {oc o o2 : AObj} {k2 : Nat}, rhp[j]? = some oc → τ j = some k → renObj τ oc = some o → hp[k2]? = some o2 → (∀ j, τ j ≠ some k2) → ∀ b, o.blk (rhoM τ ρ ρ') k = some b → o2.blk (rhoM τ ρ ρ') k2 = some b → False := by
      intro k j oc o o2 k2 h1 h2 h3 h4 h5 b hb1 hb2
      have hb1' := (touched h1 h2 h3).2.2 b hb1
      rw [AObj.blk_ext (H.ob k2 o2 h4) hloc] at hb2
      obtain ⟨k1, k3⟩ := out h4 h5 b hb2
      rcases Hc.mine j oc h1 b hb1' with h | h
      · exact k3 h
      · omega
    rcases hb i x hx with ⟨ji, oi, h1, h2, h3⟩ | ⟨h1, h2⟩ <;> rcases hb j y hy with ⟨jj, oj, h4, h5, h6⟩ | ⟨h4, h5⟩
    · have e1 := (touched h1 h2 h3).2.2 b hxb
      have e2 := (touched h4 h5 h6).2.2 b hyb
      refine Hc.apart ji jj oi oj (fun e => ?_) h1 h4 b e1 e2
      subst e; rw [h2] at h5; injection h5 with h5; exact hij h5
    · exact side h1 h2 h3 h4 h5 b hxb hyb
    · exact side h4 h5 h6 h1 h2 b hyb hxb
    · rw [AObj.blk_ext (H.ob i x h1) hloc] at hxb
      rw [AObj.blk_ext (H.ob j y h4) hloc] at hyb
      exact H.apart i j x y hij h1 h4 b hxb hyb
  · rcases hb k o ho with ⟨j, oc, h1, h2, h3⟩ | ⟨h1, h2⟩
    · have e1 := (touched h1 h2 h3).2.2 b hbb
      rcases Hc.mine j oc h1 b e1 with h | h
      · obtain ⟨k2, o2, j, h3, h4, h5⟩ := hlent b h
        exact H.mine k2 o2 h3 b h4
      · exact .inr (Nat.le_trans H.kept.size h)
    · rw [AObj.blk_ext (H.ob k o h1) hloc] at hbb
      exact H.mine k o h1 b hbb
  · by_cases h : ∃ j, τ j = some k
    · obtain ⟨j, hj⟩ := h
      rw [rhoM_in hinj hj]
      rcases hτb j k hj with h | h
      · omega
      · exact h v
    · rw [rhoM_out (fun j hj => h ⟨j, hj⟩)]; exact H.new k (by omega) v
  · rcases hb k o ho with ⟨j, oc, h1, h2, h3⟩ | ⟨h1, h2⟩
    · rw [rhoM_in hinj h2]
      exact Hc.vers j oc h1 v (by rw [← (touched h1 h2 h3).2.1]; exact hv)
    · rw [rhoM_out h2]; exact H.vers k o h1 v hv
end
end Go.Proofs.Ytbefhofmbiedgaa
