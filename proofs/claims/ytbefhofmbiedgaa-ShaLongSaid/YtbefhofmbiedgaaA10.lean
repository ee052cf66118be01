/- How the abstract heap turns: a new object, one object turned, one made stable. Over any program; no condition. -/
import Derived.Test.YtbefhofmbiedgaaA9
namespace Go.Proofs.Ytbefhofmbiedgaa
set_option linter.all false
open Go.RowKit

def rset (ρ : Rho) (id v : Nat) (L : Lc) : Rho := fun i u => if i = id ∧ u = v then some L else ρ i u
theorem rset_self (ρ : Rho) (id v : Nat) (L : Lc) : rset ρ id v L id v = some L := by simp [rset]
theorem rset_ne (ρ : Rho) (id v : Nat) (L : Lc) {i u : Nat} (h : ¬ (i = id ∧ u = v)) : rset ρ id v L i u = ρ i u := by simp [rset, h]

section
variable {F : Nat → Prop} {w0 w w' : World} {S S' : Nat → Prop} {ρ ρ' : Rho} {hp : List AObj}

theorem ObjOk.notS {id : Nat} {o : AObj} (h : ObjOk w S ρ id o) : ∀ b, o.blk ρ id = some b → ¬ S b := by
  intro b hb
  cases o with
  | cells t ps =>
    obtain ⟨g, us, h1, h2, h3, h4⟩ := h
    simp only [AObj.blk, h1, Option.bind_some, ablk, Option.map_some] at hb
    injection hb with hb; subst hb; exact h4
  | row e sz ver xs =>
    obtain ⟨L, us, h1, h2, h3, h4, h5, h6⟩ := h
    simp only [AObj.blk, h1, Option.bind_some] at hb
    exact h6 b hb
  | froz => cases hb
  | gone => cases hb
theorem ObjOk.lt {id : Nat} {o : AObj} (h : ObjOk w S ρ id o) : ∀ b, o.blk ρ id = some b → b < w.heap.size := by
  intro b hb
  cases o with
  | cells t ps =>
    obtain ⟨g, us, h1, h2, h3, h4⟩ := h
    simp only [AObj.blk, h1, Option.bind_some, ablk, Option.map_some] at hb
    injection hb with hb; subst hb; exact (Array.getElem?_eq_some_iff.1 h2).1
  | row e sz ver xs =>
    obtain ⟨L, us, h1, h2, h3, h4, h5, h6⟩ := h
    simp only [AObj.blk, h1, Option.bind_some] at hb
    obtain ⟨_, h4⟩ := h4
    rcases h4 with ⟨k1, _⟩ | ⟨g, cur, fr, k1, k2, _⟩
    · rw [k1] at hb; cases hb
    · rw [k1] at hb; simp only [ablk, Option.map_some] at hb; injection hb with hb; subst hb; exact (Array.getElem?_eq_some_iff.1 k2).1
  | froz => cases hb
  | gone => cases hb
/-- An object goes on where its block is as it was. -/
theorem ObjOk.keep {id : Nat} {o : AObj} (h : ObjOk w S ρ id o) (e : Ext w w' S S' ρ ρ') (hb : ∀ b, o.blk ρ id = some b → w'.heap[b]? = w.heap[b]?) (hS : ∀ b, o.blk ρ id = some b → S' b → S b) (hn : ∀ v, ρ id v = none → ρ' id v = none) : ObjOk w' S' ρ' id o := by
  cases o with
  | cells t ps =>
    obtain ⟨g, us, h1, h2, h3, h4⟩ := h
    have hg : (AObj.cells t ps).blk ρ id = some g := by simp [AObj.blk, h1, ablk]
    exact ⟨g, us, e.loc _ _ _ h1, (hb g hg).trans h2, h3.ext e, fun hs => h4 (hS g hg hs)⟩
  | row e' sz ver xs =>
    obtain ⟨L, us, h1, h2, h3, h4, h5, h6⟩ := h
    have hg : ∀ g, ablk L.A = some g → (AObj.row e' sz ver xs).blk ρ id = some g := fun g hg => by simp [AObj.blk, h1, hg]
    refine ⟨L, us, e.loc _ _ _ h1, h2, h3, ?_, h5.ext ⟨e.mem, e.st, fun _ _ _ h => by cases h⟩, fun g hgg hs => h6 g hgg (hS g (hg g hgg) hs)⟩
    obtain ⟨h4a, h4⟩ := h4
    refine ⟨h4a, ?_⟩
    rcases h4 with h4 | ⟨g, cur, fr, k1, k2, r⟩
    · exact .inl h4
    · exact .inr ⟨g, cur, fr, k1, (hb g (hg g (by rw [k1]; rfl))).trans k2, r⟩
  | froz sz ver xs =>
    obtain ⟨L, h1, h2, h3, h4⟩ := h
    exact ⟨L, e.loc _ _ _ h1, h2, h3, h4.ext e.mem e.st (fun _ _ _ h => by cases h)⟩
  | gone => exact fun v => hn v (h v)
theorem AObj.blk_ext {id : Nat} {o : AObj} (h : ObjOk w S ρ id o) (hl : ∀ id ver L, ρ id ver = some L → ρ' id ver = some L) : o.blk ρ' id = o.blk ρ id := by
  cases o with
  | cells t ps => obtain ⟨g, us, h1, _⟩ := h; simp only [AObj.blk, h1, hl _ _ _ h1]
  | row e' sz ver xs => obtain ⟨L, us, h1, _⟩ := h; simp only [AObj.blk, h1, hl _ _ _ h1]
  | froz => rfl
  | gone => rfl

/-- One object has turned (its block alone has), and there may be new blocks. -/
theorem HeapOk.upd (H : HeapOk F w0 S ρ hp w) {id : Nat} {o o' : AObj} (hid : hp[id]? = some o) (hg : w.grownBy w' (o.blk ρ id)) (hS : ∀ b, S b → S' b) (hS2 : ∀ b, S' b → S b ∨ (w.heap.size ≤ b ∧ b < w'.heap.size) ∨ o.blk ρ id = some b)
    (hl : ∀ i v L, ρ i v = some L → ρ' i v = some L) (hl2 : ∀ i v, i ≠ id → ρ' i v = ρ i v) (hob : ObjOk w' S' ρ' id o') (hv : ∀ v, o'.ver < v → ρ' id v = none)
    (hb : ∀ b, o'.blk ρ' id = some b → o.blk ρ id = some b ∨ w.heap.size ≤ b) : HeapOk F w0 S' ρ' (hp.set id o') w' ∧ Ext w w' S S' ρ ρ' := by
  have ho := H.ob id o hid
  have hlt : id < hp.length := (List.getElem?_eq_some_iff.1 hid).1
  have hE : Ext w w' S S' ρ ρ' := ⟨fun b hb => hg.block b (H.slt b hb) (fun e => ho.notS b e.symm hb), hS, hl⟩
  have split : ∀ (j : Nat) (z : AObj), (hp.set id o')[j]? = some z → (j = id ∧ z = o') ∨ (j ≠ id ∧ hp[j]? = some z) := by
    intro j z hz
    by_cases e : j = id
    · subst e; rw [List.getElem?_set_self hlt] at hz; exact .inl ⟨rfl, by simpa using hz.symm⟩
    · rw [List.getElem?_set_ne (Ne.symm e)] at hz; exact .inr ⟨e, hz⟩
  have hmine : ∀ b, o'.blk ρ' id = some b → F b ∨ w0.heap.size ≤ b := fun b hbb => by
    rcases hb b hbb with h | h
    · exact H.mine id o hid b h
    · exact .inr (Nat.le_trans H.kept.size h)
  refine ⟨⟨H.kept.of_grown hg (fun k hk => H.mine id o hid k hk), fun j z hz => ?_, fun i j x y hij hx hy b hxb hyb => ?_, fun j z hz b hzb => ?_, fun b hbb => ?_, fun j hj v => ?_, fun j z hz v hvv => ?_⟩, hE⟩
  · rcases split j z hz with ⟨rfl, rfl⟩ | ⟨hne, hz⟩
    · exact hob
    · have hz' := H.ob j z hz
      refine hz'.keep hE (fun b hbb => hg.block b (hz'.lt b hbb) (fun e => H.apart j id z o hne hz hid b hbb e.symm)) (fun b hbb hs => ?_) (fun v hv => by rw [hl2 j v hne]; exact hv)
      rcases hS2 b hs with h | ⟨h, _⟩ | h
      · exact h
      · have := hz'.lt b hbb; omega
      · exact absurd h (H.apart j id z o hne hz hid b hbb)
  · rcases split i x hx with ⟨e1, e2⟩ | ⟨hi, hx1⟩ <;> rcases split j y hy with ⟨e3, e4⟩ | ⟨hj, hy1⟩
    · exact hij (e1.trans e3.symm)
    · have hy' := H.ob j y hy1
      rw [AObj.blk_ext hy' hl] at hyb
      rw [e1, e2] at hxb
      rcases hb b hxb with h | h
      · exact H.apart id j o y (fun e => hj e.symm) hid hy1 b h hyb
      · have := hy'.lt b hyb; omega
    · have hx' := H.ob i x hx1
      rw [AObj.blk_ext hx' hl] at hxb
      rw [e3, e4] at hyb
      rcases hb b hyb with h | h
      · exact H.apart i id x o hi hx1 hid b hxb h
      · have := hx'.lt b hxb; omega
    · have hx' := H.ob i x hx1
      have hy' := H.ob j y hy1
      rw [AObj.blk_ext hx' hl] at hxb
      rw [AObj.blk_ext hy' hl] at hyb
      exact H.apart i j x y hij hx1 hy1 b hxb hyb
  · rcases split j z hz with ⟨rfl, rfl⟩ | ⟨hne, hz⟩
    · exact hmine b hzb
    · rw [AObj.blk_ext (H.ob j z hz) hl] at hzb; exact H.mine j z hz b hzb
  · rcases hS2 b hbb with h | ⟨_, h⟩ | h
    · exact Nat.lt_of_lt_of_le (H.slt b h) hg.size
    · exact h
    · exact Nat.lt_of_lt_of_le (ho.lt b h) hg.size
  · rw [List.length_set] at hj
    rw [hl2 j v (by omega)]; exact H.new j hj v
  · rcases split j z hz with ⟨rfl, rfl⟩ | ⟨hne, hz⟩
    · exact hv v hvv
    · rw [hl2 j v hne]; exact H.vers j z hz v hvv

/-- One more object, all new. -/
theorem HeapOk.push (H : HeapOk F w0 S ρ hp w) {o' : AObj} (hbel : Below w.heap.size w w') (hS : ∀ b, S b → S' b) (hS2 : ∀ b, S' b → S b ∨ (w.heap.size ≤ b ∧ b < w'.heap.size))
    (hl : ∀ i v L, ρ i v = some L → ρ' i v = some L) (hl2 : ∀ i v, i ≠ hp.length → ρ' i v = ρ i v) (hob : ObjOk w' S' ρ' hp.length o') (hv : ∀ v, o'.ver < v → ρ' hp.length v = none)
    (hb : ∀ b, o'.blk ρ' hp.length = some b → w.heap.size ≤ b) : HeapOk F w0 S' ρ' (hp ++ [o']) w' ∧ Ext w w' S S' ρ ρ' := by
  have hE : Ext w w' S S' ρ ρ' := ⟨fun b hb => hbel.block b (H.slt b hb), hS, hl⟩
  have split : ∀ (j : Nat) (z : AObj), (hp ++ [o'])[j]? = some z → (j = hp.length ∧ z = o') ∨ (j < hp.length ∧ hp[j]? = some z) := by
    intro j z hz
    rcases Nat.lt_or_ge j hp.length with h | h
    · rw [List.getElem?_append_left h] at hz; exact .inr ⟨h, hz⟩
    · rw [List.getElem?_append_right h] at hz
      have h0 : j - hp.length < [o'].length := (List.getElem?_eq_some_iff.1 hz).1
      simp only [List.length_cons, List.length_nil] at h0
      have : j - hp.length = 0 := by omega
      rw [this] at hz
      exact .inl ⟨by omega, by simpa using hz.symm⟩
  refine ⟨⟨H.kept.trans (Kept.of_below hbel), fun j z hz => ?_, fun i j x y hij hx hy b hxb hyb => ?_, fun j z hz b hzb => ?_, fun b hbb => ?_, fun j hj v => ?_, fun j z hz v hvv => ?_⟩, hE⟩
  · rcases split j z hz with ⟨e1, e2⟩ | ⟨hne, hz⟩
    · rw [e1, e2]; exact hob
    · have hz' := H.ob j z hz
      refine hz'.keep hE (fun b hbb => hbel.block b (hz'.lt b hbb)) (fun b hbb hs => ?_) (fun v hv => by rw [hl2 j v (by omega)]; exact hv)
      rcases hS2 b hs with h | ⟨h, _⟩
      · exact h
      · have := hz'.lt b hbb; omega
  · rcases split i x hx with ⟨e1, e2⟩ | ⟨hi, hx1⟩ <;> rcases split j y hy with ⟨e3, e4⟩ | ⟨hj, hy1⟩
    · exact hij (e1.trans e3.symm)
    · have hy' := H.ob j y hy1
      rw [AObj.blk_ext hy' hl] at hyb
      rw [e1, e2] at hxb
      have h1 := hb b hxb
      have := hy'.lt b hyb; omega
    · have hx' := H.ob i x hx1
      rw [AObj.blk_ext hx' hl] at hxb
      rw [e3, e4] at hyb
      have h1 := hb b hyb
      have := hx'.lt b hxb; omega
    · have hx' := H.ob i x hx1
      have hy' := H.ob j y hy1
      rw [AObj.blk_ext hx' hl] at hxb
      rw [AObj.blk_ext hy' hl] at hyb
      exact H.apart i j x y hij hx1 hy1 b hxb hyb
  · rcases split j z hz with ⟨e1, e2⟩ | ⟨hne, hz⟩
    · rw [e1, e2] at hzb; exact .inr (Nat.le_trans H.kept.size (hb b hzb))
    · rw [AObj.blk_ext (H.ob j z hz) hl] at hzb; exact H.mine j z hz b hzb
  · rcases hS2 b hbb with h | ⟨_, h⟩
    · exact Nat.lt_of_lt_of_le (H.slt b h) hbel.size
    · exact h
  · rw [List.length_append, List.length_singleton] at hj
    rw [hl2 j v (by omega)]; exact H.new j (by omega) v
  · rcases split j z hz with ⟨e1, e2⟩ | ⟨hne, hz⟩
    · rw [e1]; rw [e2] at hvv; exact hv v hvv
    · rw [hl2 j v (by omega)]; exact H.vers j z hz v hvv
/-- Nothing of the call's own has turned. -/
theorem HeapOk.same (H : HeapOk F w0 S ρ hp w) (hbel : Below w.heap.size w w') (hS : ∀ b, S b → S' b) (hS2 : ∀ b, S' b → S b ∨ (w.heap.size ≤ b ∧ b < w'.heap.size)) : HeapOk F w0 S' ρ hp w' ∧ Ext w w' S S' ρ ρ := by
  have hE : Ext w w' S S' ρ ρ := ⟨fun b hb => hbel.block b (H.slt b hb), hS, fun _ _ _ h => h⟩
  refine ⟨⟨H.kept.trans (Kept.of_below hbel), fun j z hz => ?_, H.apart, H.mine, fun b hbb => ?_, H.new, H.vers⟩, hE⟩
  · have hz' := H.ob j z hz
    refine hz'.keep hE (fun b hbb => hbel.block b (hz'.lt b hbb)) (fun b hbb hs => ?_) (fun v hv => hv)
    rcases hS2 b hs with h | ⟨h, _⟩
    · exact h
    · have := hz'.lt b hbb; omega
  · rcases hS2 b hbb with h | ⟨_, h⟩
    · exact Nat.lt_of_lt_of_le (H.slt b h) hbel.size
    · exact h
end
end Go.Proofs.Ytbefhofmbiedgaa
