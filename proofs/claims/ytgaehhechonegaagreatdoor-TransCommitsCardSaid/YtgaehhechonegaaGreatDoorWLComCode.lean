import Derived.Test.YtgaehhechonegaaGreatDoorChecked
import Derived.Test.YtgaehhechonegaaGreatDoorWAMS
import Derived.Test.YtgaehhechonegaaGreatDoorWFRFDec
import Derived.Test.YtgaehhechonegaaGreatDoorWFTrn1
import Derived.Test.YtgaehhechonegaaGreatDoorWRComCode
import Derived.Test.YtgaehhechonegaaGreatDoorWArgs
import Derived.WideKeyArr2
import Derived.ChangeSame
import Derived.ChangeMaps5
import Derived.OpenShut
import Derived.Lib.SmallJoins
import Derived.Test.YtgaehhechonegaaGreatDoorWFCom5
open Nat (reduceDiv reduceMod reduceSub reduceAdd reduceLeDiff reduceEqDiff)
set_option linter.all false
namespace Go.Proofs.YtgaehhechonegaaGreatDoor
open Go.RowKit
def b_lto_0:ACode:=(.seq (.seq (.reg none [oS 23 (.mv (.t 4)),oS 24 (.fa 20 (.t 1)),oS 25 (.ld (.one (.con (.slice none 0 0))) (.t 24)),oS 26 (.len none false (.t 25)),oS 27 (.bin .lss (.t 23) (.t 26)),oS 28 (.mv (.t 27)),oG 29 (.mv (.t 4)) 28,oG 30 (.bin .lss (.t 29) (.c (.int .i64 20))) 28,oS 31 (.pick (.t 28) (.t 30) (.c (.bool false)))]) (.cond (.t 31) .skip (.exit 0))) (.seq (.block 1 (.reg (some [(0,false),(1,false),(2,false),(3,false),(4,false),(5,false),(6,false),(7,false),(8,true),(9,true),(10,true)]) [oS 34 (.fa 20 (.t 3)),oS 35 (.ld (.one (.con (.slice none 0 0))) (.t 34)),oS 36 (.fa 20 (.t 1)),oS 37 (.ld (.one (.con (.slice none 0 0))) (.t 36)),oS 38 (.mv (.t 4)),oS 39 (.ia 20 (.blob (List.replicate 20 (.int .u8 0))) (.t 37) (.t 38)),oS 40 (.ld (.arr 20) (.t 39)),oS 41 (.buildSl 29 20 [(.t 40)]),oS 42 (.app 29 20 20 (.t 35) (.t 41)),oS 43 (.fa 20 (.t 3)),oN (.st (.one (.con (.slice none 0 0))) (.t 43) (.t 42))])) (.reg none [oS 32 (.mv (.t 4)),oS 33 (.bin .add (.t 32) (.c (.int .i64 1))),oS 4 (.mv (.t 33))])))
def b_lto_1:ACode:=(.seq (.seq (.reg none [oS 44 (.mv (.t 5)),oS 45 (.fa 29 (.t 1)),oS 46 (.ld (.one (.con (.slice none 0 0))) (.t 45)),oS 47 (.len none false (.t 46)),oS 48 (.bin .lss (.t 44) (.t 47)),oS 49 (.mv (.t 48)),oG 50 (.mv (.t 5)) 49,oG 51 (.bin .lss (.t 50) (.c (.int .i64 20))) 49,oS 52 (.pick (.t 49) (.t 51) (.c (.bool false)))]) (.cond (.t 52) .skip (.exit 2))) (.seq (.block 3 (.seq (.reg none [oS 55 (.fa 29 (.t 1)),oS 56 (.ld (.one (.con (.slice none 0 0))) (.t 55)),oS 57 (.mv (.t 5)),oS 58 (.ia 2 (.agg [(1,(.str [])),(1,(.str []))]) (.t 56) (.t 57)),oS 59 (.ld (.st 2) (.t 58)),oS 6 (.new 65 [(1,(.str [])),(1,(.str []))]),oN (.st (.st 2) (.t 6) (.t 59))]) (.reg (some [(0,false),(1,false),(2,false),(3,false),(4,false),(5,false),(6,false),(7,false),(8,false),(9,false),(10,false),(11,false),(12,false),(13,false),(14,false),(15,false),(16,false),(17,false),(18,true),(19,true),(20,true)]) [oS 60 (.fa 29 (.t 3)),oS 61 (.ld (.one (.con (.slice none 0 0))) (.t 60)),oS 62 (.fa 0 (.t 6)),oS 63 (.ld (.one (.str [])) (.t 62)),oS 64 (.fa 0 (.t 6)),oS 65 (.ld (.one (.str [])) (.t 64)),oS 66 (.len none true (.t 65)),oS 67 (.mm false (.t 66) (.c (.int .i64 200))),oS 68 (.slS (.t 63) none (some (.t 67))),oS 69 (.fa 1 (.t 6)),oS 70 (.ld (.one (.str [])) (.t 69)),oS 71 (.fa 1 (.t 6)),oS 72 (.ld (.one (.str [])) (.t 71)),oS 73 (.len none true (.t 72)),oS 74 (.mm false (.t 73) (.c (.int .i64 200))),oS 75 (.slS (.t 70) none (some (.t 74))),oS 76 (.build [(1,(.str [])),(1,(.str []))] [(0,(1,(.t 68))),(1,(1,(.t 75)))]),oS 77 (.buildSl 69 2 [(.t 76)]),oS 78 (.app 69 2 32 (.t 61) (.t 77)),oS 79 (.fa 29 (.t 3)),oN (.st (.one (.con (.slice none 0 0))) (.t 79) (.t 78))]))) (.reg none [oS 53 (.mv (.t 5)),oS 54 (.bin .add (.t 53) (.c (.int .i64 1))),oS 5 (.mv (.t 54))])))
def t_lto_0:ACode:=(.seq (.reg none [oS 80 (.ld (.st 31) (.t 3)),oN (.st (.st 31) (.t 2) (.t 80))]) .ret)
def t_lto_1:ACode:=(.seq (.seq (.reg none [oS 5 (.mv (.c (.int .i64 0)))]) (.block 2 (.loop b_lto_1))) t_lto_0)
def c_lto:ACode:=(.seq (.reg none [oS 1 (.box 28 31 (.t 0)),oS 2 (.new 34 [(20,(.blob (List.replicate 20 (.int .u8 0)))),(1,(.con (.slice none 0 0))),(1,(.str [])),(1,(.str [])),(1,(.int .i64 0)),(1,(.str [])),(1,(.str [])),(1,(.str [])),(1,(.int .i64 0)),(1,(.str [])),(1,(.con (.slice none 0 0))),(1,(.str []))])]) (.seq (.reg (some [(0,false),(1,false),(2,false),(3,false),(4,false),(5,false),(6,false),(7,false),(8,false),(9,false),(10,false),(11,false),(12,false),(13,false),(14,false),(15,false),(16,false),(17,true)]) [oS 7 (.fa 0 (.t 1)),oS 8 (.ld (.arr 20) (.t 7)),oS 9 (.fa 21 (.t 1)),oS 10 (.ld (.st 4) (.t 9)),oS 11 (.callP 27 [(.t 10)]),oS 12 (.fa 25 (.t 1)),oS 13 (.ld (.st 4) (.t 12)),oS 14 (.callP 27 [(.t 13)]),oS 15 (.fa 30 (.t 1)),oS 16 (.ld (.one (.str [])) (.t 15)),oS 17 (.fa 30 (.t 1)),oS 18 (.ld (.one (.str [])) (.t 17)),oS 19 (.len none true (.t 18)),oS 20 (.mm false (.t 19) (.c (.int .i64 500))),oS 21 (.slS (.t 16) none (some (.t 20))),oS 22 (.build [(20,(.blob (List.replicate 20 (.int .u8 0)))),(1,(.con (.slice none 0 0))),(1,(.str [])),(1,(.str [])),(1,(.int .i64 0)),(1,(.str [])),(1,(.str [])),(1,(.str [])),(1,(.int .i64 0)),(1,(.str [])),(1,(.con (.slice none 0 0))),(1,(.str []))] [(0,(20,(.t 8))),(21,(4,(.t 11))),(25,(4,(.t 14))),(30,(1,(.t 21)))]),oS 3 (.new 34 [(20,(.blob (List.replicate 20 (.int .u8 0)))),(1,(.con (.slice none 0 0))),(1,(.str [])),(1,(.str [])),(1,(.int .i64 0)),(1,(.str [])),(1,(.str [])),(1,(.str [])),(1,(.int .i64 0)),(1,(.str [])),(1,(.con (.slice none 0 0))),(1,(.str []))]),oN (.st (.st 31) (.t 3) (.t 22))]) (.seq (.seq (.reg none [oS 4 (.mv (.c (.int .i64 0)))]) (.block 0 (.loop b_lto_0))) t_lto_1)))
def r_lto:List ARes:=[(.c 2 (.st 31))]
theorem s_lto:slimF Tryz.prog Tryz.f9=some (c_lto,r_lto):=by kernel_rfl
def b_lof_0:ACode:=(.seq (.seq (.reg none [oS 17 (.mv (.t 4)),oS 18 (.fa 20 (.t 1)),oS 19 (.ld (.one (.con (.slice none 0 0))) (.t 18)),oS 20 (.len none false (.t 19)),oS 21 (.bin .lss (.t 17) (.t 20))]) (.cond (.t 21) .skip (.exit 0))) (.seq (.block 1 (.reg (some [(0,false),(1,false),(2,false),(3,false),(4,false),(5,false),(6,false),(7,false),(8,true),(9,true),(10,true)]) [oS 24 (.fa 20 (.t 3)),oS 25 (.ld (.one (.con (.slice none 0 0))) (.t 24)),oS 26 (.fa 20 (.t 1)),oS 27 (.ld (.one (.con (.slice none 0 0))) (.t 26)),oS 28 (.mv (.t 4)),oS 29 (.ia 20 (.blob (List.replicate 20 (.int .u8 0))) (.t 27) (.t 28)),oS 30 (.ld (.arr 20) (.t 29)),oS 31 (.buildSl 22 20 [(.t 30)]),oS 32 (.app 22 20 20 (.t 25) (.t 31)),oS 33 (.fa 20 (.t 3)),oN (.st (.one (.con (.slice none 0 0))) (.t 33) (.t 32))])) (.reg none [oS 22 (.mv (.t 4)),oS 23 (.bin .add (.t 22) (.c (.int .i64 1))),oS 4 (.mv (.t 23))])))
def b_lof_1:ACode:=(.seq (.seq (.reg none [oS 34 (.mv (.t 5)),oS 35 (.fa 29 (.t 1)),oS 36 (.ld (.one (.con (.slice none 0 0))) (.t 35)),oS 37 (.len none false (.t 36)),oS 38 (.bin .lss (.t 34) (.t 37))]) (.cond (.t 38) .skip (.exit 2))) (.seq (.block 3 (.reg (some [(0,false),(1,false),(2,false),(3,false),(4,false),(5,false),(6,false),(7,false),(8,false),(9,false),(10,false),(11,false),(12,false),(13,false),(14,false),(15,false),(16,true),(17,true),(18,true)]) [oS 41 (.fa 29 (.t 3)),oS 42 (.ld (.one (.con (.slice none 0 0))) (.t 41)),oS 43 (.fa 29 (.t 1)),oS 44 (.ld (.one (.con (.slice none 0 0))) (.t 43)),oS 45 (.mv (.t 5)),oS 46 (.ia 2 (.agg [(1,(.str [])),(1,(.str []))]) (.t 44) (.t 45)),oS 47 (.fa 0 (.t 46)),oS 48 (.ld (.one (.str [])) (.t 47)),oS 49 (.fa 29 (.t 1)),oS 50 (.ld (.one (.con (.slice none 0 0))) (.t 49)),oS 51 (.mv (.t 5)),oS 52 (.ia 2 (.agg [(1,(.str [])),(1,(.str []))]) (.t 50) (.t 51)),oS 53 (.fa 1 (.t 52)),oS 54 (.ld (.one (.str [])) (.t 53)),oS 55 (.build [(1,(.str [])),(1,(.str []))] [(0,(1,(.t 48))),(1,(1,(.t 54)))]),oS 56 (.buildSl 65 2 [(.t 55)]),oS 57 (.app 65 2 32 (.t 42) (.t 56)),oS 58 (.fa 29 (.t 3)),oN (.st (.one (.con (.slice none 0 0))) (.t 58) (.t 57))])) (.reg none [oS 39 (.mv (.t 5)),oS 40 (.bin .add (.t 39) (.c (.int .i64 1))),oS 5 (.mv (.t 40))])))
def t_lof_0:ACode:=(.seq (.reg none [oS 59 (.ld (.st 31) (.t 3)),oN (.st (.st 31) (.t 2) (.t 59))]) .ret)
def t_lof_1:ACode:=(.seq (.seq (.reg none [oS 5 (.mv (.c (.int .i64 0)))]) (.block 2 (.loop b_lof_1))) t_lof_0)
def c_lof:ACode:=(.seq (.reg none [oS 1 (.box 34 31 (.t 0)),oS 2 (.new 28 [(20,(.blob (List.replicate 20 (.int .u8 0)))),(1,(.con (.slice none 0 0))),(1,(.str [])),(1,(.str [])),(1,(.int .i64 0)),(1,(.str [])),(1,(.str [])),(1,(.str [])),(1,(.int .i64 0)),(1,(.str [])),(1,(.con (.slice none 0 0))),(1,(.str []))])]) (.seq (.reg (some [(0,false),(1,false),(2,false),(3,false),(4,false),(5,false),(6,false),(7,false),(8,false),(9,false),(10,false),(11,false),(12,true)]) [oS 6 (.fa 0 (.t 1)),oS 7 (.ld (.arr 20) (.t 6)),oS 8 (.fa 21 (.t 1)),oS 9 (.ld (.st 4) (.t 8)),oS 10 (.callP 28 [(.t 9)]),oS 11 (.fa 25 (.t 1)),oS 12 (.ld (.st 4) (.t 11)),oS 13 (.callP 28 [(.t 12)]),oS 14 (.fa 30 (.t 1)),oS 15 (.ld (.one (.str [])) (.t 14)),oS 16 (.build [(20,(.blob (List.replicate 20 (.int .u8 0)))),(1,(.con (.slice none 0 0))),(1,(.str [])),(1,(.str [])),(1,(.int .i64 0)),(1,(.str [])),(1,(.str [])),(1,(.str [])),(1,(.int .i64 0)),(1,(.str [])),(1,(.con (.slice none 0 0))),(1,(.str []))] [(0,(20,(.t 7))),(21,(4,(.t 10))),(25,(4,(.t 13))),(30,(1,(.t 15)))]),oS 3 (.new 28 [(20,(.blob (List.replicate 20 (.int .u8 0)))),(1,(.con (.slice none 0 0))),(1,(.str [])),(1,(.str [])),(1,(.int .i64 0)),(1,(.str [])),(1,(.str [])),(1,(.str [])),(1,(.int .i64 0)),(1,(.str [])),(1,(.con (.slice none 0 0))),(1,(.str []))]),oN (.st (.st 31) (.t 3) (.t 16))]) (.seq (.seq (.reg none [oS 4 (.mv (.c (.int .i64 0)))]) (.block 0 (.loop b_lof_0))) t_lof_1)))
def r_lof:List ARes:=[(.c 2 (.st 31))]
theorem s_lof:slimF Tryz.prog Tryz.f10=some (c_lof,r_lof):=by kernel_rfl
def c_lwho:ACode:=(.seq (.reg none [oS 1 (.box 25 4 (.t 0)),oS 2 (.new 31 [(1,(.str [])),(1,(.str [])),(1,(.int .i64 0)),(1,(.str []))])]) (.seq (.reg (some [(0,false),(1,false),(2,false),(3,false),(4,false),(5,false),(6,false),(7,false),(8,false),(9,false),(10,false),(11,false),(12,false),(13,false),(14,false),(15,false),(16,false),(17,false),(18,false),(19,false),(20,false),(21,false),(22,false),(23,true),(24,true)]) [oS 3 (.fa 0 (.t 1)),oS 4 (.ld (.one (.str [])) (.t 3)),oS 5 (.fa 0 (.t 1)),oS 6 (.ld (.one (.str [])) (.t 5)),oS 7 (.len none true (.t 6)),oS 8 (.mm false (.t 7) (.c (.int .i64 200))),oS 9 (.slS (.t 4) none (some (.t 8))),oS 10 (.fa 1 (.t 1)),oS 11 (.ld (.one (.str [])) (.t 10)),oS 12 (.fa 1 (.t 1)),oS 13 (.ld (.one (.str [])) (.t 12)),oS 14 (.len none true (.t 13)),oS 15 (.mm false (.t 14) (.c (.int .i64 200))),oS 16 (.slS (.t 11) none (some (.t 15))),oS 17 (.fa 2 (.t 1)),oS 18 (.ld (.one (.int .i64 0)) (.t 17)),oS 19 (.fa 3 (.t 1)),oS 20 (.ld (.one (.str [])) (.t 19)),oS 21 (.fa 3 (.t 1)),oS 22 (.ld (.one (.str [])) (.t 21)),oS 23 (.len none true (.t 22)),oS 24 (.mm false (.t 23) (.c (.int .i64 200))),oS 25 (.slS (.t 20) none (some (.t 24))),oS 26 (.build [(1,(.str [])),(1,(.str [])),(1,(.int .i64 0)),(1,(.str []))] [(0,(1,(.t 9))),(1,(1,(.t 16))),(2,(1,(.t 18))),(3,(1,(.t 25)))]),oN (.st (.st 4) (.t 2) (.t 26))]) .ret))
def r_lwho:List ARes:=[(.c 2 (.st 4))]
theorem s_lwho:slimF Tryz.prog Tryz.f27=some (c_lwho,r_lwho):=by kernel_rfl
def c_lwhoOf:ACode:=(.seq (.reg none [oS 1 (.box 31 4 (.t 0)),oS 2 (.new 25 [(1,(.str [])),(1,(.str [])),(1,(.int .i64 0)),(1,(.str []))])]) (.seq (.reg none [oS 3 (.fa 0 (.t 1)),oS 4 (.ld (.one (.str [])) (.t 3)),oS 5 (.fa 1 (.t 1)),oS 6 (.ld (.one (.str [])) (.t 5)),oS 7 (.fa 2 (.t 1)),oS 8 (.ld (.one (.int .i64 0)) (.t 7)),oS 9 (.fa 3 (.t 1)),oS 10 (.ld (.one (.str [])) (.t 9)),oS 11 (.build [(1,(.str [])),(1,(.str [])),(1,(.int .i64 0)),(1,(.str []))] [(0,(1,(.t 4))),(1,(1,(.t 6))),(2,(1,(.t 8))),(3,(1,(.t 10)))]),oN (.st (.st 4) (.t 2) (.t 11))]) .ret))
def r_lwhoOf:List ARes:=[(.c 2 (.st 4))]
theorem s_lwhoOf:slimF Tryz.prog Tryz.f28=some (c_lwhoOf,r_lwhoOf):=by kernel_rfl
end Go.Proofs.YtgaehhechonegaaGreatDoor
namespace Go.Proofs.YtgaehhechonegaaGreatDoor
open Go.RowKit
open Go.Lib (index hasPrefix cut indexAny itoa decDigits)
def cut200 (w:WhoL):WhoL:=⟨w.name.take 200,w.mail.take 200,w.time,w.zone.take 200⟩
def lwhoS:Spec:=fun xs hp=>match xs,hp with
 | [.agg [(1,.str n),(1,.str m),(1,.int .i64 t),(1,.str z)]],[]=>some ⟨.agg [(1,.str (n.take 200)),(1,.str (m.take 200)),(1,.int .i64 t),(1,.str (z.take 200))],[],n.length≤9223372036854775807∧m.length≤9223372036854775807∧z.length≤9223372036854775807⟩
 | _,_=>none
theorem take_min {α:Type} (l:List α) (k:Nat):l.take (min (l.length:Int) (k:Int)).toNat=l.take k:=by
 rcases Nat.le_total l.length k with h | h
 ·rw [List.take_of_length_le (by omega),List.take_of_length_le h]
 ·rw [show (min (l.length:Int) (k:Int)).toNat=k by omega]
theorem lwho_ok:FnOk Tryz.prog 27 lwhoS:=by
 refine fn_slim2 Tryz.func27 s_lwho (Φ:=phiL []) phi_nil ?_
 intro xs hp r hs hp'
 unfold lwhoS at hs
 split at hs
 ·injection hs with hs; subst hs
  rename_i n m t z
  obtain ⟨p1,p2,p3⟩:=hp'
  refine ⟨len_le (by kernel_rfl),?_⟩
  have t1:=take_min n 200
  have t2:=take_min m 200
  have t3:=take_min z 200
  simp only [c_lwho,r_lwho,go_sem,reduceDiv,reduceMod,↓reduceIte,reduceSub,reduceAdd,reduceLeDiff,reduceCtorEq,Int.reduceLE,Int.reduceToNat]
  refine ⟨⟨by omega,by omega⟩,⟨by omega,by omega⟩,⟨by omega,by omega⟩,?_⟩
  rw [← t1,← t2,← t3]; rfl
 ·cases hs
def lwhoOfS:Spec:=fun xs hp=>match xs,hp with
 | [.agg [(1,.str n),(1,.str m),(1,.int .i64 t),(1,.str z)]],[]=>some ⟨.agg [(1,.str n),(1,.str m),(1,.int .i64 t),(1,.str z)],[],True⟩
 | _,_=>none
theorem lwhoOf_ok:FnOk Tryz.prog 28 lwhoOfS:=by
 refine fn_slim2 Tryz.func28 s_lwhoOf (Φ:=phiL []) phi_nil ?_
 intro xs hp r hs hp'
 unfold lwhoOfS at hs
 split at hs
 ·injection hs with hs; subst hs
  rename_i n m t z
  refine ⟨len_le (by kernel_rfl),?_⟩
  simp only [c_lwhoOf,r_lwhoOf,go_sem,reduceDiv,reduceMod,↓reduceIte,reduceSub,reduceAdd,reduceLeDiff,reduceCtorEq]
 ·cases hs
theorem flat_B (l:List UInt8):∀ x,x∈Bs l→flatB 4 x=true:=by
 intro x hx
 obtain ⟨u,_,rfl⟩:=List.mem_map.1 hx
 rfl
end Go.Proofs.YtgaehhechonegaaGreatDoor
namespace Go.Proofs.YtgaehhechonegaaGreatDoor
open Go.RowKit
def ex200 (x:ExL):ExL:=(x.1.take 200,x.2.take 200)
def toC (c:ComL):ComL:=⟨c.tree,c.parents.take 20,cut200 c.author,cut200 c.committer,(c.extras.take 20).map ex200,c.message.take 500⟩
def comOwn (c:ComL):AV:=.agg (comPs c.tree (.own 0 c.parents.length) c.author c.committer (.own 1 c.extras.length) c.message)
def maxB (w:WhoL):Prop:=w.name.length≤9223372036854775807∧w.mail.length≤9223372036854775807∧w.zone.length≤9223372036854775807
def maxC (c:ComL):Prop:=c.tree.length=20∧(∀ p∈c.parents,p.length=20)∧c.parents.length≤9223372036854775807∧maxB c.author∧maxB c.committer∧c.extras.length≤9223372036854775807 ∧
 (∀ x∈c.extras,x.1.length≤9223372036854775807∧x.2.length≤9223372036854775807)∧c.message.length≤9223372036854775807
def argC (t:List Value) (kq:Nat) (ps:List AV) (ke:Nat) (es:List AV):Prop:=t=(unV t).map U∧ps=(ps.map unId).map idAV∧es=(es.map unEx).map exV∧(kq=20∨ps=[])∧(ke=2∨es=[])
def ltoS:Spec:=fun xs hp=>match xs,hp with
  | [.agg [(20,.blob t),(1,.sl kq ps),(1,.str an),(1,.str am),(1,.int .i64 at'),(1,.str az),(1,.str cn),(1,.str cm),(1,.int .i64 ct),(1,.str cz),(1,.sl ke es),(1,.str m)]],[] =>
    some ⟨comOwn (toC ⟨unV t,ps.map unId,⟨an,am,at',az⟩,⟨cn,cm,ct,cz⟩,es.map unEx,m⟩),
      [.row 29 20 (toC ⟨unV t, ps.map unId, ⟨an, am, at', az⟩, ⟨cn, cm, ct, cz⟩, es.map unEx, m⟩).parents.length ((toC ⟨unV t, ps.map unId, ⟨an, am, at', az⟩, ⟨cn, cm, ct, cz⟩, es.map unEx, m⟩).parents.map idAV),
       .row 69 2 (toC ⟨unV t,ps.map unId,⟨an,am,at',az⟩,⟨cn,cm,ct,cz⟩,es.map unEx,m⟩).extras.length ((toC ⟨unV t,ps.map unId,⟨an,am,at',az⟩,⟨cn,cm,ct,cz⟩,es.map unEx,m⟩).extras.map exV)],
      argC t kq ps ke es∧maxC ⟨unV t,ps.map unId,⟨an,am,at',az⟩,⟨cn,cm,ct,cz⟩,es.map unEx,m⟩⟩
  | _,_=>none
theorem take_snoc {α:Type} (l:List α) {i:Nat} (h:i<l.length):l.take i ++ [l[i]]=l.take (i+1):=by
 rw [List.take_add_one,List.getElem?_eq_getElem h,Option.toList_some]
theorem map_take_succ {α β:Type} (f:α→β) (l:List α) {i:Nat} (h:i<l.length):(l.take i).map f ++ [f l[i]]=(l.take (i+1)).map f:=by
 rw [← take_snoc l h,List.map_append,List.map_cons,List.map_nil]
set_option maxHeartbeats 4000000 in
theorem lto_ok:FnOk Tryz.prog 9 ltoS:=by
 refine fn_slim2 Tryz.func9 s_lto (Φ:=phiL [(27,[],lwhoS)]) (phi_cons lwho_ok (by kernel_rfl) phi_nil) ?_
 intro xs hp r hs hp'
 unfold ltoS at hs
 split at hs
 ·injection hs with hs; subst hs
  rename_i t kq ps an am at' az cn cm ct cz ke es m
  obtain ⟨⟨q1,q2,q3,q4,q5⟩,l1,l2,l3,l4,l5,l6,l7,l8⟩:=hp'
  generalize unV t=t at *
  subst q1
  generalize ps.map unId=ps at *
  subst q2
  generalize es.map unEx=es at *
  subst q3
  simp only at l1 l2 l3 l4 l5 l6 l7 l8
  obtain ⟨u1,u2,u3⟩:=l4
  obtain ⟨u4,u5,u6⟩:=l5
  simp only at u1 u2 u3 u4 u5 u6
  refine ⟨len_le (by kernel_rfl),?_⟩
  have tm:=take_min m 500
  have tm:m.take (min (m.length:Int) 500).toNat=m.take 500:=tm
  simp only [c_lto,lwhoS,tm,go_sem,reduceDiv,reduceMod,↓reduceIte,reduceSub,Nat.reduceLT,reduceAdd,reduceLeDiff,reduceCtorEq,Int.reduceLE,Int.reduceToNat]
  refine ⟨⟨u1,u2,u3⟩,⟨u4,u5,u6⟩,⟨by omega,by omega⟩,l1,?_⟩
  simp only [toC,cut200,comOwn]
  generalize hwa:(⟨an.take 200,am.take 200,at',az.take 200⟩:WhoL)=wa
  generalize hwc:(⟨cn.take 200,cm.take 200,ct,cz.take 200⟩:WhoL)=wc
  have ea1:an.take 200=wa.name:=by rw [← hwa]
  have ea2:am.take 200=wa.mail:=by rw [← hwa]
  have ea3:at' = wa.time:=by rw [← hwa]
  have ea4:az.take 200=wa.zone:=by rw [← hwa]
  have ec1:cn.take 200=wc.name:=by rw [← hwc]
  have ec2:cm.take 200=wc.mail:=by rw [← hwc]
  have ec3:ct=wc.time:=by rw [← hwc]
  have ec4:cz.take 200=wc.zone:=by rw [← hwc]
  refine loop2P [(4225,29,20)] [1,2,3,4] [0,1,2,3] (fun i:Nat=>⟨[(1,.ref 0 0 0),(2,.ref 1 0 0),(3,.ref 2 0 0),(4,.int .i64 (i:Int))],
   [.cells 28 [(20,.blob (t.map U)),(1,.sl kq (ps.map idAV)),(1,.str an),(1,.str am),(1,.int .i64 at'),(1,.str az),(1,.str cn),(1,.str cm),(1,.int .i64 ct),(1,.str cz),(1,.sl ke (es.map exV)),(1,.str m)],.cells 34 com0,.cells 34 (comPs t (.own 3 i) wa wc (.con (.slice none 0 0)) (m.take 500)),.row 29 20 i ((ps.take i).map idAV)]⟩)
   (fun i=>i≤ps.length∧i≤20) (fun i=>20 - i) 0 ?_ ⟨Nat.zero_le _,Nat.zero_le _⟩ ⟨rfl,by rfl⟩ (fun i hi R hR=>?_)
  ·simp only [comPs,← ea1,← ea2,← ea3,← ea4,← ec1,← ec2,← ec3,← ec4]
   rfl
  obtain ⟨i1,i2⟩:=hi
  by_cases hil:i<ps.length∧i<20
  ·obtain ⟨hil,hi20⟩:=hil
   have c1:decide ((i:Int)<(ps.length:Int))=true:=decide_eq_true (by omega)
   have c2:decide ((i:Int)<20)=true:=decide_eq_true (by omega)
   have hk:kq=20:=q4.resolve_right (by intro h; have:=congrArg List.length h; simp at this; rw [this] at hil; simp at hil)
   subst hk
   have hget:=getD_map idAV ps [] (.blob (List.replicate 20 (.int .u8 0))) hil
   have hga:ps.getD i []=ps[i]:=by simp [List.getD_eq_getElem?_getD,List.getElem?_eq_getElem hil]
   have hl1:=l2 ps[i] (List.getElem_mem _)
   have hlen:((ps.take i).map idAV ++ [AV.blob ((ps[i]).map U)]).length=i+1:=by simp; omega
   have hsn:(ps.take i).map idAV ++ [AV.blob ((ps[i]).map U)]=(ps.take (i+1)).map idAV:=map_take_succ idAV ps hil
   simp only [b_lto_0,comPs,com0,who0,c1,c2,hget,hga,idAV,hl1,Int.toNat_natCast,List.length_map,go_sem,reduceDiv,reduceMod,↓reduceIte,reduceSub,Nat.reduceLT,reduceAdd,reduceCtorEq]
   refine ⟨⟨by omega,by omega⟩,⟨by rw [hlen]; (first | omega | (simp only [lenOk]; omega)),by rw [hlen]; (first | omega | (simp only [bytesOk]; omega))⟩,⟨by omega,by omega⟩,hR _ (i+1) ⟨by omega,by omega⟩ (by omega) ?_⟩
   rw [hsn]; rfl
  ·have e:ps.take i=ps.take 20:=by
    rcases Nat.lt_or_ge i ps.length with h | h
    ·rw [show i=20 by omega]
    ·rw [List.take_of_length_le h,List.take_of_length_le (by omega)]
   have el:(ps.take 20).length=i:=by rw [List.length_take]; omega
   have hcc:decide ((i:Int)<(ps.length:Int))=false∨(decide ((i:Int)<(ps.length:Int))=true∧decide ((i:Int)<20)=false):=by
    rcases Nat.lt_or_ge i ps.length with h | h
    ·exact .inr ⟨decide_eq_true (by omega),decide_eq_false (by omega)⟩
    ·exact .inl (decide_eq_false (by omega))
   rw [el,e]
   have hel:((es.take 20).map ex200).length=min es.length 20:=by rw [List.length_map,List.length_take]; omega
   rw [hel]
   rcases hcc with c1 | ⟨c1,c2⟩
   all_goals (
    first
     | simp only [b_lto_0,t_lto_1,comPs,com0,who0,c1,c2,go_sem,reduceDiv,reduceMod,↓reduceIte,reduceSub,reduceAdd,reduceCtorEq]
     | simp only [b_lto_0,t_lto_1,comPs,com0,who0,c1,go_sem,reduceDiv,reduceMod,↓reduceIte,reduceSub,reduceAdd,reduceCtorEq]
    refine loop2P [(4234,69,2)] [1,2,3,5] [0,1,2,3,4] (fun j:Nat=>⟨[(1,.ref 0 0 0),(2,.ref 1 0 0),(3,.ref 2 0 0),(5,.int .i64 (j:Int))],
     [.cells 28 [(20,.blob (t.map U)),(1,.sl kq (ps.map idAV)),(1,.str an),(1,.str am),(1,.int .i64 at'),(1,.str az),(1,.str cn),(1,.str cm),(1,.int .i64 ct),(1,.str cz),(1,.sl ke (es.map exV)),(1,.str m)],.cells 34 com0,.cells 34 (comPs t (.own 3 i) wa wc (.own 4 j) (m.take 500)),.row 29 20 i ((ps.take 20).map idAV),.row 69 2 j (((es.take j).map ex200).map exV)]⟩)
     (fun j=>j≤es.length∧j≤20) (fun j=>20 - j) 0 (by rfl) ⟨Nat.zero_le _,Nat.zero_le _⟩ ⟨rfl,by rfl⟩ (fun j hj R2 hR2=>?_)
    obtain ⟨j1,j2⟩:=hj
    by_cases hjl:j<es.length∧j<20
    ·obtain ⟨hjl,hj20⟩:=hjl
     have d1:decide ((j:Int)<(es.length:Int))=true:=decide_eq_true (by omega)
     have d2:decide ((j:Int)<20)=true:=decide_eq_true (by omega)
     have hk:ke=2:=q5.resolve_right (by intro h; have:=congrArg List.length h; simp at this; rw [this] at hjl; simp at hjl)
     subst hk
     have hget:=getD_map exV es ([],[]) (.agg [(1,(.str [])),(1,(.str []))]) hjl
     have hga:es.getD j ([],[])=es[j]:=by simp [List.getD_eq_getElem?_getD,List.getElem?_eq_getElem hjl]
     obtain ⟨x1,x2⟩:=l7 es[j] (List.getElem_mem _)
     have t1:=take_min es[j].1 200
     have t1:es[j].1.take (min (es[j].1.length:Int) 200).toNat=es[j].1.take 200:=t1
     have t2:=take_min es[j].2 200
     have t2:es[j].2.take (min (es[j].2.length:Int) 200).toNat=es[j].2.take 200:=t2
     have hlen:(((es.take j).map ex200).map exV ++ [AV.agg [(1,AV.str (es[j].1.take 200)),(1,AV.str (es[j].2.take 200))]]).length=j+1:=by simp; omega
     have hsn:((es.take j).map ex200).map exV ++ [AV.agg [(1,AV.str (es[j].1.take 200)),(1,AV.str (es[j].2.take 200))]]=((es.take (j+1)).map ex200).map exV:=by
      rw [← map_take_succ ex200 es hjl,List.map_append]; rfl
     simp only [b_lto_1,comPs,com0,who0,d1,d2,hget,hga,exV,t1,t2,Int.toNat_natCast,List.length_map,go_sem,reduceDiv,reduceMod,↓reduceIte,reduceSub,Nat.reduceLT,reduceAdd,reduceLeDiff,reduceCtorEq,Int.reduceLE,Int.reduceToNat]
     refine ⟨⟨by omega,by omega⟩,⟨by omega,by omega⟩,⟨by omega,by omega⟩,⟨by rw [hlen]; (first | omega | (simp only [lenOk]; omega)),by rw [hlen]; (first | omega | (simp only [bytesOk]; omega))⟩,⟨by omega,by omega⟩,hR2 _ (j+1) ⟨by omega,by omega⟩ (by omega) ?_⟩
     rw [hsn]; rfl
    ·have e2:es.take j=es.take 20:=by
      rcases Nat.lt_or_ge j es.length with h | h
      ·rw [show j=20 by omega]
      ·rw [List.take_of_length_le h,List.take_of_length_le (by omega)]
     have ej:min es.length 20=j:=by omega
     have hdd:decide ((j:Int)<(es.length:Int))=false∨(decide ((j:Int)<(es.length:Int))=true∧decide ((j:Int)<20)=false):=by
      rcases Nat.lt_or_ge j es.length with h | h
      ·exact .inr ⟨decide_eq_true (by omega),decide_eq_false (by omega)⟩
      ·exact .inl (decide_eq_false (by omega))
     rw [ej,e2]
     rcases hdd with d1 | ⟨d1,d2⟩
     ·simp only [b_lto_1,t_lto_0,r_lto,comPs,com0,who0,d1,go_sem,reduceDiv,reduceMod,↓reduceIte,reduceEqDiff,Nat.reduceBEq,reduceSub,reduceAdd,reduceLeDiff,reduceCtorEq]
     ·simp only [b_lto_1,t_lto_0,r_lto,comPs,com0,who0,d1,d2,go_sem,reduceDiv,reduceMod,↓reduceIte,reduceEqDiff,Nat.reduceBEq,reduceSub,reduceAdd,reduceLeDiff,reduceCtorEq])
 ·cases hs
def lofS:Spec:=fun xs hp=>match xs,hp with
 | [.agg [(20,.blob t),(1,.sl kq ps),(1,.str an),(1,.str am),(1,.int .i64 at'),(1,.str az),(1,.str cn),(1,.str cm),(1,.int .i64 ct),(1,.str cz),(1,.sl ke es),(1,.str m)]],[] =>
  some ⟨comOwn ⟨unV t,ps.map unId,⟨an,am,at',az⟩,⟨cn,cm,ct,cz⟩,es.map unEx,m⟩,
   [.row 22 20 (ps.map unId).length ((ps.map unId).map idAV),.row 65 2 (es.map unEx).length ((es.map unEx).map exV)],
   argC t kq ps ke es∧(unV t).length=20∧(∀ p∈ps.map unId,p.length=20)∧(ps.map unId).length≤1000000∧(es.map unEx).length≤1000000⟩
 | _,_=>none
set_option maxHeartbeats 4000000 in
theorem lof_ok:FnOk Tryz.prog 10 lofS:=by
 refine fn_slim2 Tryz.func10 s_lof (Φ:=phiL [(28,[],lwhoOfS)]) (phi_cons lwhoOf_ok (by kernel_rfl) phi_nil) ?_
 intro xs hp r hs hp'
 unfold lofS at hs
 split at hs
 ·injection hs with hs; subst hs
  rename_i t kq ps an am at' az cn cm ct cz ke es m
  obtain ⟨⟨q1,q2,q3,q4,q5⟩,l1,l2,l3,l4⟩:=hp'
  generalize unV t=t at *
  subst q1
  generalize ps.map unId=ps at *
  subst q2
  generalize es.map unEx=es at *
  subst q3
  refine ⟨len_le (by kernel_rfl),?_⟩
  simp only [c_lof,lwhoOfS,go_sem,reduceDiv,reduceMod,↓reduceIte,reduceSub,Nat.reduceLT,reduceAdd,reduceLeDiff,reduceCtorEq]
  refine ⟨l1,?_⟩
  refine loop2P [(4225,22,20)] [1,2,3,4] [0,1,2,3] (fun i:Nat=>⟨[(1,.ref 0 0 0),(2,.ref 1 0 0),(3,.ref 2 0 0),(4,.int .i64 (i:Int))],
   [.cells 34 [(20,.blob (t.map U)),(1,.sl kq (ps.map idAV)),(1,.str an),(1,.str am),(1,.int .i64 at'),(1,.str az),(1,.str cn),(1,.str cm),(1,.int .i64 ct),(1,.str cz),(1,.sl ke (es.map exV)),(1,.str m)],.cells 28 com0,.cells 28 (comPs t (.own 3 i) ⟨an,am,at',az⟩ ⟨cn,cm,ct,cz⟩ (.con (.slice none 0 0)) m),.row 22 20 i ((ps.take i).map idAV)]⟩)
   (fun i=>i≤ps.length) (fun i=>ps.length - i) 0 (by rfl) (Nat.zero_le _) ⟨rfl,by rfl⟩ (fun i hi R hR=>?_)
  by_cases hil:i<ps.length
  ·have c1:decide ((i:Int)<(ps.length:Int))=true:=decide_eq_true (by omega)
   have hk:kq=20:=q4.resolve_right (by intro h; have:=congrArg List.length h; simp at this; rw [this] at hil; simp at hil)
   subst hk
   have hget:=getD_map idAV ps [] (.blob (List.replicate 20 (.int .u8 0))) hil
   have hga:ps.getD i []=ps[i]:=by simp [List.getD_eq_getElem?_getD,List.getElem?_eq_getElem hil]
   have hl1:=l2 ps[i] (List.getElem_mem _)
   have hlen:((ps.take i).map idAV ++ [AV.blob ((ps[i]).map U)]).length=i+1:=by simp; omega
   have hsn:(ps.take i).map idAV ++ [AV.blob ((ps[i]).map U)]=(ps.take (i+1)).map idAV:=map_take_succ idAV ps hil
   simp only [b_lof_0,comPs,com0,who0,c1,hget,hga,idAV,hl1,Int.toNat_natCast,List.length_map,go_sem,reduceDiv,reduceMod,↓reduceIte,reduceSub,Nat.reduceLT,reduceAdd,reduceCtorEq]
   refine ⟨⟨by omega,by omega⟩,⟨by rw [hlen]; (first | omega | (simp only [lenOk]; omega)),by rw [hlen]; (first | omega | (simp only [bytesOk]; omega))⟩,⟨by omega,by omega⟩,hR _ (i+1) hil (by omega) ?_⟩
   rw [hsn]; rfl
  ·have c1:decide ((i:Int)<(ps.length:Int))=false:=decide_eq_false (by omega)
   obtain rfl:i=ps.length:=by omega
   rw [List.take_length]
   simp only [b_lof_0,t_lof_1,comPs,com0,who0,c1,go_sem,reduceDiv,reduceMod,↓reduceIte,reduceSub,reduceAdd,reduceCtorEq]
   refine loop2P [(4234,65,2)] [1,2,3,5] [0,1,2,3,4] (fun j:Nat=>⟨[(1,.ref 0 0 0),(2,.ref 1 0 0),(3,.ref 2 0 0),(5,.int .i64 (j:Int))],
    [.cells 34 [(20,.blob (t.map U)),(1,.sl kq (ps.map idAV)),(1,.str an),(1,.str am),(1,.int .i64 at'),(1,.str az),(1,.str cn),(1,.str cm),(1,.int .i64 ct),(1,.str cz),(1,.sl ke (es.map exV)),(1,.str m)],.cells 28 com0,.cells 28 (comPs t (.own 3 ps.length) ⟨an,am,at',az⟩ ⟨cn,cm,ct,cz⟩ (.own 4 j) m),.row 22 20 ps.length (ps.map idAV),.row 65 2 j ((es.take j).map exV)]⟩)
    (fun j=>j≤es.length) (fun j=>es.length - j) 0 (by rfl) (Nat.zero_le _) ⟨rfl,by rfl⟩ (fun j hj R2 hR2=>?_)
   by_cases hjl:j<es.length
   ·have d1:decide ((j:Int)<(es.length:Int))=true:=decide_eq_true (by omega)
    have hk:ke=2:=q5.resolve_right (by intro h; have:=congrArg List.length h; simp at this; rw [this] at hjl; simp at hjl)
    subst hk
    have hget:=getD_map exV es ([],[]) (.agg [(1,(.str [])),(1,(.str []))]) hjl
    have hga:es.getD j ([],[])=es[j]:=by simp [List.getD_eq_getElem?_getD,List.getElem?_eq_getElem hjl]
    have hlen:((es.take j).map exV ++ [AV.agg [(1,AV.str es[j].1),(1,AV.str es[j].2)]]).length=j+1:=by simp; omega
    have hsn:(es.take j).map exV ++ [AV.agg [(1,AV.str es[j].1),(1,AV.str es[j].2)]]=(es.take (j+1)).map exV:=map_take_succ exV es hjl
    simp only [b_lof_1,comPs,com0,who0,d1,hget,hga,exV,Int.toNat_natCast,List.length_map,go_sem,reduceDiv,reduceMod,↓reduceIte,reduceSub,Nat.reduceLT,reduceAdd,reduceLeDiff,reduceCtorEq]
    refine ⟨⟨by omega,by omega⟩,⟨by omega,by omega⟩,⟨by rw [hlen]; (first | omega | (simp only [lenOk]; omega)),by rw [hlen]; (first | omega | (simp only [bytesOk]; omega))⟩,⟨by omega,by omega⟩,hR2 _ (j+1) hjl (by omega) ?_⟩
    rw [hsn]; rfl
   ·have d1:decide ((j:Int)<(es.length:Int))=false:=decide_eq_false (by omega)
    obtain rfl:j=es.length:=by omega
    rw [List.take_length]
    simp only [b_lof_1,t_lof_0,r_lof,comOwn,comPs,com0,who0,d1,go_sem,reduceDiv,reduceMod,↓reduceIte,reduceEqDiff,Nat.reduceBEq,reduceSub,reduceAdd,reduceLeDiff,reduceCtorEq]
 ·cases hs
end Go.Proofs.YtgaehhechonegaaGreatDoor
namespace Go.Proofs.YtgaehhechonegaaGreatDoor
open Go.RowKit Go.ChangeShapes Go.WideShapes Go.ChangeAt Go.Deep
section
variable {H : Type} {enc : TypeId × Value → H} {P : Program} {w : World} {base : Nat} {spare : Nat → Bool} {held : Bool}
end
end Go.Proofs.YtgaehhechonegaaGreatDoor
namespace Go.Proofs.YtgaehhechonegaaGreatDoor
open Go.RowKit Go.ChangeShapes Go.WideShapes Go.ChangeAt Go.Deep
section
variable {H : Type} {enc : TypeId × Value → H} {P : Program} {w : World} {base : Nat} {spare : Nat → Bool} {held : Bool}
def whoC (n m:List UInt8) (i:Int) (z:List UInt8):List Value:=[.string ⟨n.toArray⟩,.string ⟨m.toArray⟩,.int .i64 i,.string ⟨z.toArray⟩]
end
end Go.Proofs.YtgaehhechonegaaGreatDoor
namespace Go.Proofs.YtgaehhechonegaaGreatDoor
open Go.RowKit Go.ChangeShapes Go.WideShapes Go.ChangeAt Go.Deep
section
variable {H : Type} {enc : TypeId × Value → H} {P : Program} {w : World} {base : Nat} {spare : Nat → Bool} {held : Bool}
theorem trod_id {ta e:TypeId} {fuel:Nat} {cs:List Value} {x:DataW H × List MemPlace} (ha:P.underlying ta=some (.array 20 e)) (he:P.underlying e=some (.int .u8)) (hce:P.cellsOf e=1) (hca:P.cellsOf ta=20)
  (h:DataW.trod enc P w base spare held fuel ta cs=some x):∃ l:List UInt8,cs=l.map U∧l.length=20:=by
 obtain ⟨xs,m,_,_,hl,hn,hel⟩:=DataW.trod_array ha h
 rw [hca] at hl
 obtain ⟨l,hlen,hp⟩:=list_of 20 (fun i (u:UInt8)=>cs[i]?=some (U u)) (fun i hi=>by
  have h5:=hel i hi
  rw [hce] at h5
  obtain ⟨x,hxj⟩:∃ x,xs[i]?=some x:=⟨xs[i]'(by omega),List.getElem?_eq_getElem (by omega)⟩
  rw [hxj] at h5
  obtain ⟨a,ea,_,wa⟩:=DataW.trod_int he h5
  have h4:(Lit.int .u8 a).wf=true:=wa
  simp [Lit.wf,IntKind.min,IntKind.max,IntKind.signed,IntKind.bits] at h4
  refine ⟨UInt8.ofNat a.toNat,?_⟩
  have e4:=congrArg (fun l=>l[0]?) ea
  simp only [List.getElem?_take,List.getElem?_drop,List.getElem?_cons_zero] at e4
  simp only [Nat.mul_one,Nat.add_zero] at e4
  rw [if_pos (by omega)] at e4
  rw [e4]
  unfold U
  congr 2
  simp
  omega)
 refine ⟨l,?_,hlen⟩
 apply List.ext_getElem?
 intro i
 by_cases hi:i<20
 ·rw [hp i (by omega),List.getElem?_map,List.getElem?_eq_getElem (by omega)]; rfl
 ·rw [List.getElem?_eq_none (by omega),List.getElem?_eq_none (by rw [List.length_map]; omega)]
theorem trod_who {t:TypeId} {f0 f1 f2 f3:Field} {fuel:Nat} {cs:List Value} {x:DataW H × List MemPlace} (ht:P.underlying t=some (.struct #[f0,f1,f2,f3])) (o0:f0.offset=0) (o1:f1.offset=1) (o2:f2.offset=2) (o3:f3.offset=3)
  (t0:P.underlying f0.type=some .string) (t1:P.underlying f1.type=some .string) (t2:P.underlying f2.type=some (.int .i64)) (t3:P.underlying f3.type=some .string)
  (c0:P.cellsOf f0.type=1) (c1:P.cellsOf f1.type=1) (c2:P.cellsOf f2.type=1) (c3:P.cellsOf f3.type=1) (hct:P.cellsOf t=4)
  (hf:DataW.trod enc P w base spare held fuel t cs=some x):∃ (n m:List UInt8) (i:Int) (z:List UInt8),cs=whoC n m i z∧n.length≤maxLen∧m.length≤maxLen∧z.length≤maxLen∧inI i:=by
 obtain ⟨y0,y1,y2,y3,n,_,hl,k0,k1,k2,k3⟩:=Go.Joins.trod_struct4 ht hf
 rw [hct] at hl
 obtain ⟨a0,a1,a2,a3,ha⟩:=Go.Joins.array4 (cs:=cs.toArray) (by simpa using hl)
 obtain rfl:cs=[a0,a1,a2,a3]:=by simpa using congrArg Array.toList ha
 rw [o0,c0] at k0
 rw [o1,c1] at k1
 rw [o2,c2] at k2
 rw [o3,c3] at k3
 obtain ⟨s0,e0,_,l0⟩:=DataW.trod_string t0 k0
 obtain ⟨s1,e1,_,l1⟩:=DataW.trod_string t1 k1
 obtain ⟨i,e2,_,wi⟩:=DataW.trod_int t2 k2
 obtain ⟨s3,e3,_,l3⟩:=DataW.trod_string t3 k3
 simp at e0 e1 e2 e3
 subst e0 e1 e2 e3
 obtain ⟨⟨s0⟩⟩:=s0
 obtain ⟨⟨s1⟩⟩:=s1
 obtain ⟨⟨s3⟩⟩:=s3
 refine ⟨s0,s1,i,s3,rfl,by simpa [ByteArray.size] using l0,by simpa [ByteArray.size] using l1,by simpa [ByteArray.size] using l3,?_⟩
 have h4:(Lit.int .i64 i).wf=true:=wi
 simp [Lit.wf,IntKind.min,IntKind.max,IntKind.signed,IntKind.bits] at h4
 unfold inI
 omega
theorem drop_split {α:Type} (c:List α) (a k:Nat):c.drop a=(c.drop a).take k ++ c.drop (a+k):=by
 rw [← List.drop_drop,List.take_append_drop]
end
end Go.Proofs.YtgaehhechonegaaGreatDoor
namespace Go.Proofs.YtgaehhechonegaaGreatDoor
open Go.RowKit Go.ChangeShapes Go.WideShapes Go.ChangeAt Go.Deep
section
variable {H : Type} {enc : TypeId × Value → H} {P : Program} {w : World} {base : Nat} {spare : Nat → Bool} {held : Bool}
theorem cell_lt {b o:Nat} {u:Value} (h:w.cell? ⟨b,o,none⟩=some u):b<w.heap.size:=by
 rcases Nat.lt_or_ge b w.heap.size with h1 | h1
 ·exact h1
 ·simp [World.cell?,Array.getElem?_eq_none h1] at h
theorem flat_get (uss:List (List Value)) (k:Nat) (hk:∀ us∈uss,us.length=k) (i j:Nat) (hi:i<uss.length) (hj:j<k):uss.flatten[i * k+j]?=uss[i][j]?:=by
 induction uss generalizing i with
 | nil=>simp at hi
 | cons us uss ih =>
  have hl:=hk us (List.mem_cons_self ..)
  cases i with
  | zero=>simp only [List.flatten_cons,Nat.zero_mul,Nat.zero_add,List.getElem_cons_zero]; rw [List.getElem?_append_left (by omega)]
  | succ i =>
   simp only [List.flatten_cons,List.getElem_cons_succ]
   rw [List.getElem?_append_right (by rw [hl,Nat.succ_mul]; omega),hl,show (i+1) * k+j - k=i * k+j by rw [Nat.succ_mul]; omega]
   exact ih (fun us h=>hk us (List.mem_cons_of_mem _ h)) i (by simpa using hi)
theorem flat_len (uss:List (List Value)) (k:Nat) (hk:∀ us∈uss,us.length=k):uss.flatten.length=uss.length * k:=by
 induction uss with
 | nil=>simp
 | cons us uss ih=>rw [List.flatten_cons,List.length_append,hk us (List.mem_cons_self ..),ih fun u h=>hk u (List.mem_cons_of_mem _ h),List.length_cons,Nat.succ_mul]; omega
theorem open_sl {S:Nat→Prop} {ρ:Rho} (hS:∀ b,b<w.heap.size→S b) {t e:TypeId} {k:Nat} (ht:P.underlying t=some (.slice e)) (hk:P.cellsOf e=k) (k0:0<k) {α:Type} (g:α→AV) (Pr:α→Prop)
  (hel:∀ fuel cs x,DataW.trod enc P w base spare held fuel e cs=some x→∃ a,Cs w S rho0 (g a) cs∧cs.length=k∧Pr a)
  {fuel:Nat} {cs:List Value} {x:DataW H × List MemPlace} (h:DataW.trod enc P w base spare held fuel t cs=some x):∃ (v:Value) (xs:List α),cs=[v]∧Cs w S ρ (.sl k (xs.map g)) [v]∧xs.length≤9223372036854775807∧∀ a∈xs,Pr a:=by
 rcases open_slice ht h with ⟨h0,_⟩ | ⟨a,len,cap,m,n,D,Pl,hcs,hb,hl,hm,hmm,hx,hi⟩
 ·exact ⟨_,[],h0,.sl0 _ _ _ (by omega),by simp,fun a ha=>by cases ha⟩
 ·have hcap:cap≤9223372036854775807:=by simpa [maxLen] using hm
  obtain ⟨ps,hlen,hp⟩:=list_of len (fun i (p:α × List Value)=>Cs w S rho0 (g p.1) p.2∧p.2.length=k∧Pr p.1∧∀ j,j<k→w.cell? (a.add (i * k+j))=p.2[j]?) (fun i hil=>by
   have him:i<m:=by rw [hmm]; split <;> omega
   obtain ⟨cs',hc,ht'⟩:=hi i him
   rw [hk] at hc
   obtain ⟨_,hcl,hat⟩:=World.cells?_some hc
   obtain ⟨y,h1,h2,h3⟩:=hel _ _ _ ht'
   exact ⟨(y,cs'),h1,h2,h3,fun j hj=>by rw [← Go.Deep.add_add]; exact hat j hj⟩)
  refine ⟨_,ps.map Prod.fst,hcs,?_,by rw [List.length_map]; omega,fun y hy=>?_⟩
  rotate_left
  ·obtain ⟨p,hpm,rfl⟩:=List.mem_map.1 hy
   obtain ⟨i,hil,rfl⟩:=List.getElem_of_mem hpm
   exact (hp i hil).2.2.1
  rcases Nat.eq_zero_or_pos len with h0 | h0
  ·subst h0
   obtain rfl:=List.eq_nil_of_length_eq_zero hlen
   exact .sl0 _ _ _ hcap
  ·have hks:∀ us∈ps.map Prod.snd,us.length=k:=by
    intro us hus
    obtain ⟨p,hpm,rfl⟩:=List.mem_map.1 hus
    obtain ⟨i,hil,rfl⟩:=List.getElem_of_mem hpm
    exact (hp i hil).2.1
   have hfl:=flat_len _ k hks
   rw [List.length_map,hlen] at hfl
   obtain ⟨b,off,spot⟩:=a
   have hc0:=(hp 0 (by omega)).2.2.2 0 k0
   have hs0:(ps[0]'(by omega)).2[0]?=some ((ps[0]'(by omega)).2[0]'(by rw [(hp 0 (by omega)).2.1]; exact k0)):=List.getElem?_eq_getElem _
   rw [hs0] at hc0
   have hspot:spot=none:=by simpa [Addr.add] using World.cell?_spot hc0
   subst hspot
   rw [add_spot] at hc0
   have hcell:∀ j,j<(ps.map Prod.snd).flatten.length→w.cell? ⟨b,off+j,none⟩=(ps.map Prod.snd).flatten[j]?:=by
    intro j hj
    rw [hfl] at hj
    have hjk:j / k<len:=(Nat.div_lt_iff_lt_mul k0).2 hj
    have hjm:=Nat.mod_lt j k0
    have h1:=(hp (j / k) (by omega)).2.2.2 (j % k) hjm
    have h2:=flat_get (ps.map Prod.snd) k hks (j / k) (j % k) (by rw [List.length_map]; omega) hjm
    rw [show j / k * k+j % k=j by rw [Nat.mul_comm]; exact Nat.div_add_mod j k] at h1 h2
    rw [add_spot] at h1
    rw [h1,h2,List.getElem_map]
   have hagg:Cs w S rho0 (.agg (prs k ((ps.map Prod.fst).map g))) (ps.map Prod.snd).flatten:=by
    refine .agg _ (ps.map Prod.snd) (by simp [prs]) (fun i hi=>?_) (fun i hi=>?_)
    ·have hi2:i<ps.length:=by simpa [prs] using hi
     have e1:(ps.map Prod.snd).getD i []=ps[i].2:=by simp [List.getD_eq_getElem?_getD,List.getElem?_eq_getElem hi2]
     have e2:(prs k ((ps.map Prod.fst).map g)).getD i (0,.top)=(k,g ps[i].1):=by simp [prs,List.getD_eq_getElem?_getD,List.getElem?_eq_getElem hi2]
     rw [e1,e2]; exact (hp i hi2).2.1
    ·have hi2:i<ps.length:=by simpa [prs] using hi
     have e1:(ps.map Prod.snd).getD i []=ps[i].2:=by simp [List.getD_eq_getElem?_getD,List.getElem?_eq_getElem hi2]
     have e2:(prs k ((ps.map Prod.fst).map g)).getD i (0,.top)=(k,g ps[i].1):=by simp [prs,List.getD_eq_getElem?_getD,List.getElem?_eq_getElem hi2]
     rw [e1,e2]; exact (hp i hi2).1
   have hlx:((ps.map Prod.fst).map g).length=len:=by simpa using hlen
   have:=Cs.sl (ρ:=ρ) k ((ps.map Prod.fst).map g) (ps.map Prod.snd).flatten b off cap (hS b (cell_lt hc0)) hagg (by rw [hfl,hlx]) hcell (by rw [hlx]; omega) hcap
   rwa [hlx] at this
theorem trod_struct6 {t:TypeId} {f0 f1 f2 f3 f4 f5:Field} {fuel:Nat} {cs:List Value} {x:DataW H × List MemPlace} (ht:P.underlying t=some (.struct #[f0,f1,f2,f3,f4,f5])) (h:DataW.trod enc P w base spare held fuel t cs=some x) :
  ∃ y0 y1 y2 y3 y4 y5 n,DataW.trod enc P w base spare held n f0.type ((cs.drop f0.offset).take (P.cellsOf f0.type))=some y0 ∧
   DataW.trod enc P w base spare held n f1.type ((cs.drop f1.offset).take (P.cellsOf f1.type))=some y1∧DataW.trod enc P w base spare held n f2.type ((cs.drop f2.offset).take (P.cellsOf f2.type))=some y2 ∧
   DataW.trod enc P w base spare held n f3.type ((cs.drop f3.offset).take (P.cellsOf f3.type))=some y3∧DataW.trod enc P w base spare held n f4.type ((cs.drop f4.offset).take (P.cellsOf f4.type))=some y4 ∧
   DataW.trod enc P w base spare held n f5.type ((cs.drop f5.offset).take (P.cellsOf f5.type))=some y5:=by
 obtain ⟨xs,n,_,rfl,hl,hlen,hf⟩:=DataW.trod_struct ht h
 match xs,hlen with
 | [y0,y1,y2,y3,y4,y5],_=>exact ⟨y0,y1,y2,y3,y4,y5,n,by simpa using hf 0 f0 rfl,by simpa using hf 1 f1 rfl,by simpa using hf 2 f2 rfl,by simpa using hf 3 f3 rfl,by simpa using hf 4 f4 rfl,by simpa using hf 5 f5 rfl⟩
theorem trod_ex {S:Nat→Prop} {t:TypeId} {f0 f1:Field} {fuel:Nat} {cs:List Value} {x:DataW H × List MemPlace} (ht:P.underlying t=some (.struct #[f0,f1])) (o0:f0.offset=0) (o1:f1.offset=1) (t0:P.underlying f0.type=some .string) (t1:P.underlying f1.type=some .string)
  (c0:P.cellsOf f0.type=1) (c1:P.cellsOf f1.type=1) (hct:P.cellsOf t=2) (hf:DataW.trod enc P w base spare held fuel t cs=some x) :
  ∃ a:List UInt8 × List UInt8,Cs w S rho0 (.agg [(1,.str a.1),(1,.str a.2)]) cs∧cs.length=2∧(a.1.length≤9223372036854775807∧a.2.length≤9223372036854775807):=by
 obtain ⟨xs,n,_,rfl,hl,hlen,hf⟩:=DataW.trod_struct ht hf
 have k0:=hf 0 f0 rfl
 have k1:=hf 1 f1 rfl
 rw [hct] at hl
 match xs,hlen,cs,hl with
 | [y0,y1],_,[a0,a1],_ =>
  rw [o0,c0] at k0
  rw [o1,c1] at k1
  obtain ⟨⟨⟨s0⟩⟩,e0,_,l0⟩:=DataW.trod_string t0 k0
  obtain ⟨⟨⟨s1⟩⟩,e1,_,l1⟩:=DataW.trod_string t1 k1
  simp at e0 e1
  subst e0 e1
  refine ⟨(s0,s1),?_,rfl,by simpa [ByteArray.size,maxLen] using l0,by simpa [ByteArray.size,maxLen] using l1⟩
  exact Css.cs ⟨[.string ⟨s0.toArray⟩],_,rfl,rfl,.str s0,[.string ⟨s1.toArray⟩],[],rfl,rfl,.str s1,rfl⟩
end
end Go.Proofs.YtgaehhechonegaaGreatDoor
namespace Go.Proofs.YtgaehhechonegaaGreatDoor
open Go.RowKit Go.ChangeShapes Go.WideShapes Go.ChangeAt Go.Deep
def comAV (c:ComL):AV:=.agg (comPs c.tree (.sl 20 (c.parents.map idAV)) c.author c.committer (.sl 2 (c.extras.map exV)) c.message)
def whoB (w:WhoL):Prop:=w.name.length≤9223372036854775807∧w.mail.length≤9223372036854775807∧w.zone.length≤9223372036854775807∧inI w.time
def comB (c:ComL):Prop:=c.tree.length=20∧(∀ p∈c.parents,p.length=20)∧c.parents.length≤9223372036854775807∧whoB c.author∧whoB c.committer∧c.extras.length≤9223372036854775807 ∧
 (∀ x∈c.extras,x.1.length≤9223372036854775807∧x.2.length≤9223372036854775807)∧c.message.length≤9223372036854775807
def ComArg (w:World) (v:Value):Prop:=∃ c:ComL,(∀ ρ,Vl1 w (fun b=>b<w.heap.size) ρ (comAV c) v)∧comB c
section
variable {H : Type} {enc : TypeId × Value → H} {P : Program} {w : World} {base : Nat} {spare : Nat → Bool} {held : Bool}
theorem open_com {r:Reach} {b0:Nat} {t ta e tw tp tx te:TypeId} {f0 f1 f2 f3 f4 f5 g0 g1 g2 g3 h0 h1:Field} {v:Value} {d:DataW H} {ps:List MemPlace} (ht:P.underlying t=some (.struct #[f0,f1,f2,f3,f4,f5])) (o0:f0.offset=0) (o1:f1.offset=20) (o2:f2.offset=21) (o3:f3.offset=25) (o4:f4.offset=29) (o5:f5.offset=30)
  (hta:f0.type=ta) (htp:f1.type=tp) (htw:f2.type=tw) (htv:f3.type=tw) (htx:f4.type=tx)
  (ha:P.underlying ta=some (.array 20 e)) (he:P.underlying e=some (.int .u8)) (hp:P.underlying tp=some (.slice ta)) (hx:P.underlying tx=some (.slice te)) (hex:P.underlying te=some (.struct #[h0,h1])) (q0:h0.offset=0) (q1:h1.offset=1)
  (hw:P.underlying tw=some (.struct #[g0,g1,g2,g3])) (p0:g0.offset=0) (p1:g1.offset=1) (p2:g2.offset=2) (p3:g3.offset=3)
  (s5:P.underlying f5.type=some .string) (u0:P.underlying h0.type=some .string) (u1:P.underlying h1.type=some .string)
  (t0:P.underlying g0.type=some .string) (t1:P.underlying g1.type=some .string) (t2:P.underlying g2.type=some (.int .i64)) (t3:P.underlying g3.type=some .string)
  (hce:P.cellsOf e=1) (hca:P.cellsOf ta=20) (hcw:P.cellsOf tw=4) (hcx:P.cellsOf te=2) (hct:P.cellsOf t=31) (d1:P.cellsOf tp=1) (d4:P.cellsOf tx=1) (d5:P.cellsOf f5.type=1)
  (c0:P.cellsOf g0.type=1) (c1:P.cellsOf g1.type=1) (c2:P.cellsOf g2.type=1) (c3:P.cellsOf g3.type=1) (b0' : P.cellsOf h0.type=1) (b1' : P.cellsOf h1.type=1)
  (hval:Value.okWide P w r b0 t v) (hd:DataW.Trod enc P w base spare held t v d ps):ComArg w v:=by
 simp only [Value.okWide,ht] at hval
 obtain ⟨cs,rfl,z2,_⟩:=hval
 rw [hct] at z2
 obtain ⟨fuel,hf⟩:=hd
 obtain ⟨y0,y1,y2,y3,y4,y5,n,k0,k1,k2,k3,k4,k5⟩:=trod_struct6 ht hf
 simp only [Value.cells] at k0 k1 k2 k3 k4 k5
 obtain ⟨c⟩:=cs
 simp only at z2 k0 k1 k2 k3 k4 k5
 have hc:c.length=31:=by simpa using z2
 rw [o0,hta,hca] at k0
 rw [o1,htp,d1] at k1
 rw [o2,htw,hcw] at k2
 rw [o3,htv,hcw] at k3
 rw [o4,htx,d4] at k4
 rw [o5,d5] at k5
 obtain ⟨o,e0,l0⟩:=trod_id ha he hce hca k0
 have hid:∀ fuel cs x,DataW.trod enc P w base spare held fuel ta cs=some x→∃ a:List UInt8,Cs w (fun b=>b<w.heap.size) rho0 (idAV a) cs∧cs.length=20∧a.length=20:=by
  intro fuel cs x h
  obtain ⟨l,rfl,hl⟩:=trod_id ha he hce hca h
  exact ⟨l,.blob _ (fun u hu=>by obtain ⟨x,_,rfl⟩:=List.mem_map.1 hu; rfl),by simpa using hl,hl⟩
 obtain ⟨wn,wm,wt,wz,e2,l2⟩:=trod_who hw p0 p1 p2 p3 t0 t1 t2 t3 c0 c1 c2 c3 hcw k2
 obtain ⟨vn,vm,vt,vz,e3,l3⟩:=trod_who hw p0 p1 p2 p3 t0 t1 t2 t3 c0 c1 c2 c3 hcw k3
 obtain ⟨⟨⟨m'⟩⟩,e5,_,l5⟩:=DataW.trod_string s5 k5
 obtain ⟨v1,pl,e1,j1,n1,m1⟩:=open_sl (S:=fun b=>b<w.heap.size) (ρ:=rho0) (fun _ h=>h) hp hca (by decide) idAV (fun a=>a.length=20) hid k1
 obtain ⟨v4,xl,e4,j4,n4,m4⟩:=open_sl (S:=fun b=>b<w.heap.size) (ρ:=rho0) (fun _ h=>h) hx hcx (by decide) exV (fun a=>a.1.length≤9223372036854775807∧a.2.length≤9223372036854775807) (fun fuel cs x h=>trod_ex hex q0 q1 u0 u1 b0' b1' hcx h) k4
 have hsp:c=o.map U ++ ([v1] ++ (whoC wn wm wt wz ++ (whoC vn vm vt vz ++ ([v4] ++ [.string ⟨m'.toArray⟩])))):=by
  rw [← e0,← e1,← e2,← e3,← e4,← e5]
  conv=>lhs; rw [← List.drop_zero (l:=c),drop_split c 0 20,Nat.zero_add,drop_split c 20 1,drop_split c 21 4,drop_split c 25 4,drop_split c 29 1,drop_split c 30 1,List.drop_of_length_le (i:=30+1) (by omega)]
  simp
 have hml:m'.length≤9223372036854775807:=by simpa [ByteArray.size,maxLen] using l5
 simp only [maxLen] at l2 l3
 subst hsp
 refine ⟨⟨o,pl,⟨wn,wm,wt,wz⟩,⟨vn,vm,vt,vz⟩,xl,m'⟩,fun ρ=>?_,l0,m1,n1,l2,l3,n4,m4,hml⟩
 have f1:Cs w (fun b=>b<w.heap.size) ρ (.sl 20 (pl.map idAV)) [v1]:=j1.ext (fun _ _=>rfl) (fun _ h=>h) (fun _ _ _ h=>by cases h)
 have f4:Cs w (fun b=>b<w.heap.size) ρ (.sl 2 (xl.map exV)) [v4]:=j4.ext (fun _ _=>rfl) (fun _ h=>h) (fun _ _ _ h=>by cases h)
 refine .inr ⟨_,?_,rfl⟩
 exact Css.cs ⟨o.map U,_,rfl,by simpa using l0,.blob _ (fun u hu=>by obtain ⟨x,_,rfl⟩:=List.mem_map.1 hu; rfl),[v1],_,rfl,rfl,f1,
  [.string ⟨wn.toArray⟩],_,rfl,rfl,.str wn,[.string ⟨wm.toArray⟩],_,rfl,rfl,.str wm,[.int .i64 wt],_,rfl,rfl,.int .i64 wt,[.string ⟨wz.toArray⟩],_,rfl,rfl,.str wz,
  [.string ⟨vn.toArray⟩],_,rfl,rfl,.str vn,[.string ⟨vm.toArray⟩],_,rfl,rfl,.str vm,[.int .i64 vt],_,rfl,rfl,.int .i64 vt,[.string ⟨vz.toArray⟩],_,rfl,rfl,.str vz,
  [v4],_,rfl,rfl,f4,[.string ⟨m'.toArray⟩],[],rfl,rfl,.str m',rfl⟩
end
end Go.Proofs.YtgaehhechonegaaGreatDoor
namespace Go.Proofs.YtgaehhechonegaaGreatDoor
open Go.RowKit
open Go.Lib (itoa)
theorem toC_len (c:ComL) (h:comB c):(toC c).tree.length=20∧(∀ p∈(toC c).parents,p.length=20)∧(toC c).parents.length≤20∧(toC c).extras.length≤20∧(∀ x∈(toC c).extras,x.1.length≤200∧x.2.length≤200) ∧
  (toC c).author.name.length+(toC c).author.mail.length+(toC c).author.zone.length≤600∧(toC c).committer.name.length+(toC c).committer.mail.length+(toC c).committer.zone.length≤600∧(toC c).message.length≤500∧inI (toC c).author.time∧inI (toC c).committer.time:=by
 obtain ⟨h1,h2,h3,⟨h4,h5,h6,h7⟩,⟨h8,h9,h10,h11⟩,h12,h13,h14⟩:=h
 refine ⟨h1,fun p hp=>h2 p (List.mem_of_mem_take hp),?_,?_,?_,?_,?_,?_,h7,h11⟩
 ·simp only [toC,List.length_take]; omega
 ·simp only [toC,List.length_map,List.length_take]; omega
 ·intro x hx
  simp only [toC,List.mem_map] at hx
  obtain ⟨y,_,rfl⟩:=hx
  simp only [ex200,List.length_take]; omega
 ·simp only [toC,cut200,List.length_take]; omega
 ·simp only [toC,cut200,List.length_take]; omega
 ·simp only [toC,List.length_take]; omega
theorem toC_size (c:ComL) (h:comB c):sizeOkC (toC c)∧(bodyC (toC c)).length≤1000000:=by
 obtain ⟨h1,h2,h3,h4,h5,h6,h7,h8,h9,h10⟩:=toC_len c h
 generalize toC c=c at *
 have l1:=textW_le h9
 have l2:=textW_le h10
 have l3:=flat_par c.parents h2
 have l4:=flat_ex c.extras
 have l5:=wExt_le c.extras h5
 have l6:=hexL_length c.tree
 have hb:(bodyC c).length≤1000000:=by
  rw [bodyC_shape]
  simp only [List.length_append,List.length_cons,treW,autW,comW,List.length_nil]
  omega
 exact ⟨⟨by omega,h1,h2,by omega,by omega,fun x hx=>by have:=h5 x hx; omega,by omega,by omega⟩,hb⟩
theorem flat_id (l:List (List UInt8)):(∀ x∈l.map idAV,flatB 4 x=true)=True:=by
 refine eq_true fun x hx=>?_
 obtain ⟨y,_,rfl⟩:=List.mem_map.1 hx; rfl
theorem flat_exs (l:List ExL):(∀ x∈l.map exV,flatB 4 x=true)=True:=by
 refine eq_true fun x hx=>?_
 obtain ⟨y,_,rfl⟩:=List.mem_map.1 hx; rfl
theorem sameC_self (c:ComL):sameC c c=true:=sameC_iff.2 rfl
end Go.Proofs.YtgaehhechonegaaGreatDoor
