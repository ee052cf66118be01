import Derived.Test.YtakolikdebfkeaaGreatDoorQMem
import Derived.WalkKit
import Derived.ProofKit
import Derived.OpenShut
import Derived.ShutString
import Derived.ChangeOld
import Derived.Below
import Derived.Deep.Slices
import Derived.Deep.Fields
import Derived.ChangeSame
open Nat (reduceDiv reduceMod reduceSub reduceAdd reduceLeDiff reduceEqDiff)
set_option linter.all false
namespace Go.Proofs.YtakolikdebfkeaaGreatDoor
open Go.RowKit Go.ChangeShapes Go.WideShapes Go.ChangeAt Go.Deep
structure Arg (W:World) (A:Option Addr) (n c:Nat) (l:List UInt8):Prop where
 len:n=l.length
 rd:Rd W A l
 cap:l.length≤c
 max:c≤9223372036854775807
 blk:∀ k,ablk A=some k→k<W.heap.size
def bytesOf (zs:List Int):List UInt8:=zs.map fun z=>UInt8.ofNat z.toNat
theorem bytesOf_at (zs:List Int) (k:Nat) (hk:k<zs.length) (h0:0≤zs.getD k 0) (h1:zs.getD k 0≤255):at8 (bytesOf zs) k=zs.getD k 0:=by
 unfold at8 bytesOf
 simp only [List.getD_eq_getElem?_getD,List.getElem?_map,List.getElem?_eq_getElem hk,Option.map_some,Option.getD_some] at h0 h1 ⊢
 simp
 omega
section
variable {H : Type} {enc : TypeId × Value → H} {P : Program} {w : World} {base : Nat} {spare : Nat → Bool} {held : Bool}
theorem trod_bytes {t e:TypeId} {fuel:Nat} {cs:List Value} {x:DataW H × List MemPlace} (ht:P.underlying t=some (.slice e)) (he:P.underlying e=some (.int .u8)) (hc:P.cellsOf e=1)
  (h:DataW.trod enc P w base spare held fuel t cs=some x):∃ A c l,cs=[.slice A l.length c]∧Rd w A l∧l.length≤c∧c≤9223372036854775807:=by
 rcases open_ints ht he hc h with ⟨hcs,_⟩ | ⟨a,l,c,zs,hcs,_,hl,hm,hz,_,hcell,hwz⟩
 ·exact ⟨none,0,[],hcs,Rd.nil _ _,Nat.le_refl _,Nat.zero_le _⟩
 ·have hzl:l≤zs.length:=by rw [hz]; split <;> omega
  have hlen:(bytesOf (zs.take l)).length=l:=by simp [bytesOf,List.length_take]; omega
  refine ⟨some a,c,bytesOf (zs.take l),by rw [hlen]; exact hcs,fun h0=>?_,by omega,by simpa [maxLen] using hm⟩
  rw [hlen] at h0
  obtain ⟨b,off,spot⟩:=a
  have hc0:=hcell 0 (by omega)
  have hspot:spot=none:=by simpa [Addr.add] using World.cell?_spot hc0
  subst hspot
  refine ⟨b,off,rfl,fun k hk=>?_⟩
  rw [hlen] at hk
  have h1:=hcell k (by omega)
  rw [add_spot] at h1
  have hmem:zs.getD k 0∈zs:=by
   rw [List.getD_eq_getElem?_getD,List.getElem?_eq_getElem (by omega)]; exact List.getElem_mem _
  have hw:=hwz _ hmem
  have hw2:0≤zs.getD k 0∧zs.getD k 0≤255:=by
   have h4:(Lit.int .u8 (zs.getD k 0)).wf=true:=hw
   generalize zs.getD k 0=z at h4
   simp [Lit.wf,IntKind.min,IntKind.max,IntKind.signed,IntKind.bits] at h4
   exact h4
  have h3:(zs.take l).getD k 0=zs.getD k 0:=by simp [List.getD_eq_getElem?_getD,List.getElem?_take,hk]
  rw [h1,bytesOf_at _ _ (by rw [List.length_take]; omega) (by rw [h3]; exact hw2.1) (by rw [h3]; exact hw2.2),h3]
theorem slice_blk {r:Reach} {b0:Nat} {t e:TypeId} {A:Option Addr} {n c:Nat} (ht:P.underlying t=some (.slice e)) (hval:Value.okWide P w r b0 t (.slice A n c)):∀ k,ablk A=some k→k<w.heap.size:=by
 intro k hk
 cases A with
 | none=>cases hk
 | some a =>
  cases hk
  simp only [Value.okWide,ht,Cell.okWide,Cell.ok] at hval
  obtain ⟨_,_,_,_,row,cells,hs,_⟩:=hval
  rcases Nat.lt_or_ge a.block w.heap.size with h | h
  ·exact h
  ·simp [World.shape?,Array.getElem?_eq_none h] at hs
theorem open_bytes {r:Reach} {b0:Nat} {t e:TypeId} {v:Value} {d:DataW H} {ps:List MemPlace} (ht:P.underlying t=some (.slice e)) (he:P.underlying e=some (.int .u8)) (hc:P.cellsOf e=1)
  (hval:Value.okWide P w r b0 t v) (hd:DataW.Trod enc P w base spare held t v d ps):∃ A n c l,v=.slice A n c∧Arg w A n c l:=by
 obtain ⟨A,n,c,rfl⟩:=okWide_slice ht hval
 obtain ⟨fuel,hf⟩:=hd
 obtain ⟨A',c',l,hcs,h1,h2,h3⟩:=trod_bytes ht he hc hf
 simp [Value.cells] at hcs
 obtain ⟨rfl,rfl,rfl⟩:=hcs
 exact ⟨_,_,_,l,rfl,rfl,h1,h2,h3,slice_blk ht hval⟩
end
end Go.Proofs.YtakolikdebfkeaaGreatDoor
