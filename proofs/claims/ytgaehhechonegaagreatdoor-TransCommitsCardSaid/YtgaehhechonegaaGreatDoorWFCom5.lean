import Derived.Test.YtgaehhechonegaaGreatDoorWShaParse
import Derived.Test.YtgaehhechonegaaGreatDoorChecked
import Derived.Test.YtgaehhechonegaaGreatDoorWAMS
open Nat (reduceDiv reduceMod reduceSub reduceAdd reduceLeDiff reduceEqDiff)
set_option linter.all false
namespace Go.Proofs.YtgaehhechonegaaGreatDoor
open Go.RowKit
open Go.Lib (index hasPrefix cut indexAny itoa)
def mustG (s:List UInt8) (b:Bool) (w:List UInt8):List UInt8 × List UInt8 × Bool :=
 match lineG s w with
 | some (x,r)=>(x,r,b)
 | none=>([],s,true)
theorem mustG_len (s:List UInt8) (b:Bool) (w:List UInt8):(mustG s b w).1.length≤s.length∧(mustG s b w).2.1.length≤s.length:=by
 unfold mustG
 cases h:lineG s w with
 | none=>simp
 | some p=>obtain ⟨x,r⟩:=p; have:=lineG_len h; simp only; omega
def mustS:Spec:=fun xs hp=>match xs,hp with
 | [.ref 0 0 0,.str w],[.cells T [(1,.str s),(1,.bool b)]]=>some ⟨.str (mustG s b w).1,[.cells T [(1,.str (mustG s b w).2.1),(1,.bool (mustG s b w).2.2)]],s.length≤1000000000⟩
 | _,_=>none
theorem must_ok:FnOk Tryz.prog 95 mustS:=by
 refine fn_slim2 Tryz.func95 s_cmust (Φ:=phiL [(115,[],lineS)]) (phi_cons line_ok (by kernel_rfl) phi_nil) ?_
 intro xs hp r hs hp'
 unfold mustS at hs
 split at hs
 ·injection hs with hs; subst hs
  rename_i w T s b
  have p1:s.length≤1000000000:=hp'
  refine ⟨len_le (by kernel_rfl),?_⟩
  cases h:lineG s w with
  | none =>
   have e:mustG s b w=([],s,true):=by unfold mustG; rw [h]
   rw [e]
   simp only [c_cmust,r_cmust,lineS,h,lineR,go_sem,reduceDiv,reduceMod,↓reduceIte,Nat.reduceBEq,reduceSub,Nat.reduceLT,reduceAdd,reduceCtorEq,Int.reduceLT]
   exact p1
  | some p =>
   obtain ⟨x,rr⟩:=p
   have e:mustG s b w=(x,rr,b):=by unfold mustG; rw [h]
   rw [e]
   simp only [c_cmust,r_cmust,lineS,h,lineR,go_sem,reduceDiv,reduceMod,↓reduceIte,Nat.reduceBEq,Nat.reduceLT,reduceAdd,Int.reduceLT]
   exact p1
 ·cases hs
def cidS:Spec:=fun xs hp=>match xs,hp with
 | [.ref 0 0 0,.str w],[.cells T [(1,.str s),(1,.bool b)]]=>some ⟨.blob ((pOut (mustG s b w).1).map U),[.cells T [(1,.str (mustG s b w).2.1),(1,.bool ((mustG s b w).2.2 || !goodQ (mustG s b w).1))]],s.length≤1000000000⟩
 | _,_=>none
set_option maxHeartbeats 2000000 in
theorem cid_ok:FnOk Tryz.prog 92 cidS:=by
 refine fn_slim2 Tryz.func92 s_cid (Φ:=phiL [(95,[],mustS),(113,[],parseS)]) (phi_cons must_ok (by kernel_rfl) (phi_cons parse_ok (by kernel_rfl) phi_nil)) ?_
 intro xs hp r hs hp'
 unfold cidS at hs
 split at hs
 ·injection hs with hs; subst hs
  rename_i w T s b
  have p1:s.length≤1000000000:=hp'
  refine ⟨len_le (by kernel_rfl),?_⟩
  have hl:=mustG_len s b w
  have h20:=pOut_len (mustG s b w).1
  simp only [c_cid,mustS,parseS,go_sem,reduceDiv,reduceMod,↓reduceIte,reduceEqDiff,reduceSub,Nat.reduceLT,reduceAdd,reduceCtorEq]
  generalize mustG s b w=M at *
  unfold pErr
  cases h1:M.2.2 <;> cases h2:goodQ M.1
  all_goals (
   simp only [k_cid_2,r_cid,h20,Bool.false_eq_true,go_sem,reduceDiv,reduceMod,↓reduceIte,reduceSub,reduceAdd,reduceCtorEq,Int.reduceEq]
   repeat' apply And.intro
   all_goals first | omega | rfl | trivial | skip)
 ·cases hs
noncomputable def cwhoS:Spec:=fun xs hp=>match xs,hp with
 | [.ref 0 0 0,.str w],[.cells T [(1,.str s),(1,.bool b)]]=>some ⟨.agg (whoP (personV (mustG s b w).1)),[.cells T [(1,.str (mustG s b w).2.1),(1,.bool ((mustG s b w).2.2 || !personB (mustG s b w).1))]],s.length≤1000000000⟩
 | _,_=>none
set_option maxHeartbeats 2000000 in
theorem cwho_ok:FnOk Tryz.prog 93 cwhoS:=by
 refine fn_slim2 Tryz.func93 s_cwho (Φ:=phiL [(95,[],mustS),(114,[],personS)]) (phi_cons must_ok (by kernel_rfl) (phi_cons person_ok (by kernel_rfl) phi_nil)) ?_
 intro xs hp r hs hp'
 unfold cwhoS at hs
 split at hs
 ·injection hs with hs; subst hs
  rename_i w T s b
  have p1:s.length≤1000000000:=hp'
  refine ⟨len_le (by kernel_rfl),?_⟩
  have hl:=mustG_len s b w
  simp only [c_cwho,mustS,personS,personR,whoP,go_sem,reduceDiv,reduceMod,↓reduceIte,reduceEqDiff,reduceSub,Nat.reduceLT,reduceAdd,reduceLeDiff,reduceCtorEq]
  generalize mustG s b w=M at *
  generalize personV M.1=V at *
  cases h1:M.2.2 <;> cases h2:personB M.1
  all_goals (
   simp only [k_cwho_2,r_cwho,Bool.false_eq_true,go_sem,reduceDiv,reduceMod,↓reduceIte,reduceSub,reduceAdd,reduceLeDiff,reduceCtorEq,Int.reduceEq]
   repeat' apply And.intro
   all_goals first | omega | rfl | trivial | skip)
 ·cases hs
def b_cextras_0:ACode:=(.block 3 (.seq (.reg none [oS 40 (.mv (.t 0)),oS 41 (.nck (.t 40)),oS 42 (.fa 0 (.t 41)),oS 43 (.buildSl 9 1 [(.c (.str [32]))]),oS 44 (.call 115 [(.t 42),(.t 43)]),oS 39 (.mv (.t 44)),oS 45 (.ext (.t 39) 0),oS 46 (.ext (.t 39) 1),oS 9 (.mv (.t 45)),oS 10 (.mv (.t 46))]) (.seq (.seq (.reg none [oS 47 (.mv (.t 10)),oS 48 (.bin .lss (.t 47) (.c (.int .i64 0)))]) (.cond (.t 48) (.exit 2) .skip)) (.reg none [oS 49 (.fa 1 (.t 8)),oS 50 (.ld (.one (.str [])) (.t 49)),oS 51 (.mv (.t 9)),oS 52 (.bin .add (.c (.str [10])) (.t 51)),oS 53 (.bin .add (.t 50) (.t 52)),oS 54 (.fa 1 (.t 8)),oN (.st (.one (.str [])) (.t 54) (.t 53))]))))
def t_cextras_0:ACode:=(.seq (.reg none [oS 55 (.mv (.t 0)),oS 56 (.mv (.t 0)),oS 57 (.nck (.t 56)),oS 58 (.fa 0 (.t 57)),oS 59 (.fa 1 (.t 58)),oS 60 (.ld (.one (.bool false)) (.t 59)),oS 61 (.mv (.t 60)),oH 62 (.mv (.t 7)) 61,oH 63 (.un .not (.t 62)) 61,oS 64 (.pick (.t 61) (.c (.bool true)) (.t 63)),oS 65 (.mv (.t 64)),oH 66 (.ld (.st 2) (.t 8)) 65,oH 67 (.call 49 [(.t 66)]) 65,oH 68 (.un .not (.t 67)) 65,oS 69 (.pick (.t 65) (.c (.bool true)) (.t 68)),oS 70 (.nck (.t 55)),oS 71 (.fa 0 (.t 70)),oS 72 (.fa 1 (.t 71)),oN (.st (.one (.bool false)) (.t 72) (.t 69))]) (.reg none [oS 73 (.mv (.t 3)),oS 74 (.ld (.st 2) (.t 8)),oS 75 (.buildSl 69 2 [(.t 74)]),oS 76 (.app 69 2 32 (.t 73) (.t 75)),oS 3 (.mv (.t 76))]))
def b_cextras_1:ACode:=(.seq (.seq (.reg none [oS 11 (.mv (.t 0)),oS 12 (.nck (.t 11)),oS 13 (.fa 0 (.t 12)),oS 14 (.fa 1 (.t 13)),oS 15 (.ld (.one (.bool false)) (.t 14)),oS 16 (.un .not (.t 15)),oS 17 (.mv (.t 16)),oG 18 (.mv (.t 0)) 17,oG 19 (.nck (.t 18)) 17,oG 20 (.fa 0 (.t 19)) 17,oG 21 (.fa 0 (.t 20)) 17,oG 22 (.ld (.one (.str [])) (.t 21)) 17,oG 23 (.call 84 [(.t 22),(.c (.str [10]))]) 17,oG 24 (.un .not (.t 23)) 17,oS 25 (.pick (.t 17) (.t 24) (.c (.bool false)))]) (.cond (.t 25) .skip (.exit 0))) (.block 1 (.seq (.reg none [oS 26 (.mv (.t 0)),oS 27 (.nck (.t 26)),oS 28 (.fa 0 (.t 27)),oS 29 (.call 95 [(.t 28),(.c (.str []))]),oS 4 (.mv (.t 29))]) (.seq (.reg none [oS 31 (.mv (.t 4)),oS 32 (.call 82 [(.t 31),(.c (.str [32]))]),oS 30 (.mv (.t 32)),oS 33 (.ext (.t 30) 0),oS 34 (.ext (.t 30) 1),oS 35 (.ext (.t 30) 2),oS 5 (.mv (.t 33)),oS 6 (.mv (.t 34)),oS 7 (.mv (.t 35))]) (.seq (.reg none [oS 36 (.mv (.t 5)),oS 37 (.mv (.t 6)),oS 38 (.build [(1,(.str [])),(1,(.str []))] [(0,(1,(.t 36))),(1,(1,(.t 37)))]),oS 8 (.new 69 [(1,(.str [])),(1,(.str []))]),oN (.st (.st 2) (.t 8) (.t 38))]) (.seq (.block 2 (.loop b_cextras_0)) t_cextras_0))))))
def t_cextras_1:ACode:=(.seq (.reg none [oS 77 (.mv (.t 3)),oS 2 (.mv (.t 77))]) .ret)
def c_cextras:ACode:=(.seq (.reg none [oS 2 (.mv (.c (.con (.slice none 0 0))))]) (.seq (.reg none [oS 3 (.mv (.c (.con (.slice none 0 0))))]) (.seq (.block 0 (.loop b_cextras_1)) t_cextras_1)))
def r_cextras:List ARes:=[(.t 2)]
theorem s_cextras:slimF Tryz.prog Tryz.f94=some (c_cextras,r_cextras):=by kernel_rfl
def b_cpar_0:ACode:=(.seq (.seq (.reg none [oS 16 (.mv (.t 4)),oS 17 (.nck (.t 16)),oS 18 (.fa 0 (.t 17)),oS 19 (.fa 1 (.t 18)),oS 20 (.ld (.one (.bool false)) (.t 19)),oS 21 (.un .not (.t 20)),oS 22 (.mv (.t 21)),oG 23 (.mv (.t 4)) 22,oG 24 (.nck (.t 23)) 22,oG 25 (.fa 0 (.t 24)) 22,oG 26 (.fa 0 (.t 25)) 22,oG 27 (.ld (.one (.str [])) (.t 26)) 22,oG 28 (.call 84 [(.t 27),(.c (.str [112,97,114,101,110,116,32]))]) 22,oS 29 (.pick (.t 22) (.t 28) (.c (.bool false)))]) (.cond (.t 29) .skip (.exit 0))) (.block 1 (.seq (.reg none [oS 30 (.mv (.t 4)),oS 31 (.call 92 [(.t 30),(.c (.str [112,97,114,101,110,116,32]))]),oS 6 (.new 29 [(20,(.blob (List.replicate 20 (.int .u8 0))))]),oN (.st (.arr 20) (.t 6) (.t 31))]) (.reg none [oS 32 (.fa 20 (.t 5)),oS 33 (.ld (.one (.con (.slice none 0 0))) (.t 32)),oS 34 (.ld (.arr 20) (.t 6)),oS 35 (.buildSl 29 20 [(.t 34)]),oS 36 (.app 29 20 20 (.t 33) (.t 35)),oS 37 (.fa 20 (.t 5)),oN (.st (.one (.con (.slice none 0 0))) (.t 37) (.t 36))]))))
def t_cpar_0:ACode:=(.seq (.reg none [oS 38 (.mv (.t 4)),oS 39 (.call 93 [(.t 38),(.c (.str [97,117,116,104,111,114,32]))]),oS 40 (.fa 21 (.t 5)),oN (.st (.st 4) (.t 40) (.t 39))]) (.seq (.reg none [oS 41 (.mv (.t 4)),oS 42 (.call 93 [(.t 41),(.c (.str [99,111,109,109,105,116,116,101,114,32]))]),oS 43 (.fa 25 (.t 5)),oN (.st (.st 4) (.t 43) (.t 42))]) (.seq (.reg none [oS 44 (.mv (.t 4)),oS 45 (.call 94 [(.t 44)]),oS 46 (.fa 29 (.t 5)),oN (.st (.one (.con (.slice none 0 0))) (.t 46) (.t 45))]) (.seq (.reg none [oS 47 (.mv (.t 4)),oS 48 (.nck (.t 47)),oS 49 (.fa 0 (.t 48)),oS 50 (.call 95 [(.t 49),(.c (.str []))]),oS 7 (.mv (.t 50))]) (.seq (.reg none [oS 51 (.mv (.t 4)),oS 52 (.nck (.t 51)),oS 53 (.fa 0 (.t 52)),oS 54 (.fa 0 (.t 53)),oS 55 (.ld (.one (.str [])) (.t 54)),oS 56 (.fa 30 (.t 5)),oN (.st (.one (.str [])) (.t 56) (.t 55))]) (.seq (.seq (.reg none [oS 57 (.mv (.t 4)),oS 58 (.nck (.t 57)),oS 59 (.fa 0 (.t 58)),oS 60 (.fa 1 (.t 59)),oS 61 (.ld (.one (.bool false)) (.t 60)),oS 62 (.mv (.t 61)),oH 63 (.mv (.t 7)) 62,oH 64 (.bin .neq (.t 63) (.c (.str []))) 62,oS 65 (.pick (.t 62) (.c (.bool true)) (.t 64))]) (.cond (.t 65) (.seq (.reg none [oS 66 (.build [(20,(.blob (List.replicate 20 (.int .u8 0)))),(1,(.con (.slice none 0 0))),(1,(.str [])),(1,(.str [])),(1,(.int .i64 0)),(1,(.str [])),(1,(.str [])),(1,(.str [])),(1,(.int .i64 0)),(1,(.str [])),(1,(.con (.slice none 0 0))),(1,(.str []))] []),oN (.st (.st 31) (.t 2) (.t 66)),oS 3 (.mv (.c (.int .i64 4)))]) .ret) .skip)) (.seq (.reg none [oS 67 (.ld (.st 31) (.t 5)),oN (.st (.st 31) (.t 2) (.t 67)),oS 3 (.mv (.c (.int .i64 0)))]) .ret)))))))
def c_cpar:ACode:=(.seq (.reg none [oS 2 (.new 34 [(20,(.blob (List.replicate 20 (.int .u8 0)))),(1,(.con (.slice none 0 0))),(1,(.str [])),(1,(.str [])),(1,(.int .i64 0)),(1,(.str [])),(1,(.str [])),(1,(.str [])),(1,(.int .i64 0)),(1,(.str [])),(1,(.con (.slice none 0 0))),(1,(.str []))]),oS 3 (.mv (.c (.int .i64 0)))]) (.seq (.reg none [oS 8 (.mv (.t 0)),oS 9 (.toStr (.t 8)),oS 10 (.build [(1,(.str [])),(1,(.bool false))] [(0,(1,(.t 9)))]),oS 11 (.build [(1,(.str [])),(1,(.bool false))] [(0,(2,(.t 10)))]),oS 12 (.box 141 2 (.t 11)),oS 4 (.mv (.t 12))]) (.seq (.reg none [oS 13 (.mv (.t 4)),oS 14 (.call 92 [(.t 13),(.c (.str [116,114,101,101,32]))]),oS 15 (.build [(20,(.blob (List.replicate 20 (.int .u8 0)))),(1,(.con (.slice none 0 0))),(1,(.str [])),(1,(.str [])),(1,(.int .i64 0)),(1,(.str [])),(1,(.str [])),(1,(.str [])),(1,(.int .i64 0)),(1,(.str [])),(1,(.con (.slice none 0 0))),(1,(.str []))] [(0,(20,(.t 14)))]),oS 5 (.new 34 [(20,(.blob (List.replicate 20 (.int .u8 0)))),(1,(.con (.slice none 0 0))),(1,(.str [])),(1,(.str [])),(1,(.int .i64 0)),(1,(.str [])),(1,(.str [])),(1,(.str [])),(1,(.int .i64 0)),(1,(.str [])),(1,(.con (.slice none 0 0))),(1,(.str []))]),oN (.st (.st 31) (.t 5) (.t 15))]) (.seq (.block 0 (.loop b_cpar_0)) t_cpar_0))))
def r_cpar:List ARes:=[(.c 2 (.st 31)),(.t 3)]
theorem s_cpar:slimF Tryz.prog Tryz.f65=some (c_cpar,r_cpar):=by kernel_rfl
def contG:Nat→List UInt8→List UInt8→List UInt8 × List UInt8
 | 0,s,v=>(s,v)
 | f+1,s,v=>match lineG s [32] with
  | some (m,r)=>contG f r (v ++ ([10] ++ m))
  | none=>(s,v)
theorem contG_len:∀ (f:Nat) (s v:List UInt8),(contG f s v).1.length≤s.length∧(contG f s v).2.length≤v.length+f * (s.length+1):=by
 intro f
 induction f with
 | zero=>intro s v; simp [contG]
 | succ f ih =>
  intro s v
  unfold contG
  cases h:lineG s [32] with
  | none=>simp only; exact ⟨Nat.le_refl _,by omega⟩
  | some p =>
   obtain ⟨m,r⟩:=p
   have:=lineG_len h
   obtain ⟨i1,i2⟩:=ih r (v ++ ([10] ++ m))
   simp only [List.length_append,List.length_cons,List.length_nil] at i1 i2 ⊢
   refine ⟨by omega,?_⟩
   have hm:f * (r.length+1)≤f * (s.length+1):=Nat.mul_le_mul_left _ (by omega)
   rw [Nat.add_mul]; omega
theorem contG_s:∀ (f:Nat) (s v:List UInt8),(contG f s v).1.length+(contG f s v).2.length≤s.length+v.length:=by
 intro f
 induction f with
 | zero=>intro s v; simp [contG]
 | succ f ih =>
  intro s v
  unfold contG
  cases h:lineG s [32] with
  | none=>simp
  | some p =>
   obtain ⟨m,r⟩:=p
   have hc:m.length+1+1+r.length≤s.length:=by
    unfold lineG at h
    split at h
    ·rename_i hc
     injection h with h; injection h with h1 h2; subst h1 h2
     have:=congrArg List.length (cut_t hc.1)
     simp only [List.length_append,List.length_cons,List.length_nil] at this
     have h3:[(32:UInt8)].isPrefixOf (cut s [10]).1=true:=hc.2
     rw [List.isPrefixOf_iff_prefix] at h3
     have h4:=h3.length_le
     simp only [List.length_drop,List.length_cons,List.length_nil] at h4 ⊢
     omega
    ·cases h
   have:=ih r (v ++ ([10] ++ m))
   simp only [List.length_append,List.length_cons,List.length_nil] at this ⊢
   omega
def extra1 (s:List UInt8):List UInt8 × List UInt8 × Bool × ExL :=
 let m:=mustG s false []
 let c:=cut m.1 [32]
 let z:=contG (m.2.1.length+1) m.2.1 c.2.1
 (z.1,z.2,m.2.2 || !c.2.2 || !extraB c.1,(c.1,z.2))
def extrasG:Nat→List UInt8→Bool→List ExL→List UInt8 × Bool × List ExL
 | 0,s,b,acc=>(s,b,acc)
 | f+1,s,b,acc=>if b=false∧hasPrefix s [10]=false then extrasG f (extra1 s).1 (extra1 s).2.2.1 (acc ++ [(extra1 s).2.2.2]) else (s,b,acc)
theorem mustG_dec (s w:List UInt8) (b:Bool):(mustG s b w).2.2=true∨(mustG s b w).2.1.length<s.length:=by
 unfold mustG
 cases h:lineG s w with
 | none=>exact .inl rfl
 | some p=>obtain ⟨x,r⟩:=p; exact .inr (lineG_len h).2
def wgt (s:List UInt8) (b:Bool):Nat:=s.length+(if b=true then 0 else 1)
theorem extra1_dec (s:List UInt8):wgt (extra1 s).1 (extra1 s).2.2.1<wgt s false:=by
 unfold wgt extra1
 have h1:=(contG_len ((mustG s false []).2.1.length+1) (mustG s false []).2.1 (cut (mustG s false []).1 [32]).2.1).1
 have h2:=(mustG_len s false []).2
 rcases mustG_dec s [] false with h | h
 ·simp only [h,Bool.true_or,if_true]
  simp; omega
 ·have hx:∀ b:Bool,(if b=true then 0 else 1:Nat)≤1:=by intro b; split <;> omega
  have h3:=hx ((mustG s false []).2.2 || !(cut (mustG s false []).1 [32]).2.2 || !extraB (cut (mustG s false []).1 [32]).1)
  show _<s.length+1
  simp only
  omega
def cextrasS:Spec:=fun xs hp=>match xs,hp with
 | [.ref 0 0 0],[.cells T [(1,.str s),(1,.bool b)]] =>
  some ⟨.own 1 (extrasG (wgt s b+1) s b []).2.2.length,[.cells T [(1,.str (extrasG (wgt s b+1) s b []).1),(1,.bool (extrasG (wgt s b+1) s b []).2.1)],.row 69 2 (extrasG (wgt s b+1) s b []).2.2.length ((extrasG (wgt s b+1) s b []).2.2.map exV)],s.length≤1000000⟩
 | _,_=>none
def phiExt:Phi:=phiL [(95,[],mustS),(115,[],lineS),(84,[],hasPreS),(82,[],cutS),(49,[],cextraS)]
theorem phiExt_ok:PhiOk Tryz.prog phiExt:=phi_cons must_ok (by kernel_rfl) (phi_cons line_ok (by kernel_rfl) (phi_cons hasPre_ok (by kernel_rfl) (phi_cons cut_ok (by kernel_rfl) (phi_cons cextra_ok (by kernel_rfl) phi_nil))))
theorem phiExt_1:phiExt 95=some ([],mustS):=rfl
theorem phiExt_2:phiExt 115=some ([],lineS):=rfl
theorem phiExt_3:phiExt 84=some ([],hasPreS):=rfl
theorem phiExt_4:phiExt 82=some ([],cutS):=rfl
theorem phiExt_5:phiExt 49=some ([],cextraS):=rfl
set_option maxHeartbeats 4000000 in
theorem cextras_ok:FnOk Tryz.prog 94 cextrasS:=by
 refine fn_slim2 Tryz.func94 s_cextras phiExt_ok ?_
 intro xs hp r hs hp'
 unfold cextrasS at hs
 split at hs
 ·injection hs with hs; subst hs
  rename_i T s0 b0
  have p1:s0.length≤1000000:=hp'
  refine ⟨len_le (by kernel_rfl),?_⟩
  generalize hE:extrasG (wgt s0 b0+1) s0 b0 []=E at *
  simp only [c_cextras,go_sem,reduceDiv,reduceMod,reduceAdd]
  refine loop2P [(3,69,2)] [0,3] [0,1] (fun q:Nat × List UInt8 × Bool × List ExL=>⟨[(0,.ref 0 0 0),(3,.own 1 q.2.2.2.length)],[.cells T [(1,.str q.2.1),(1,.bool q.2.2.1)],.row 69 2 q.2.2.2.length (q.2.2.2.map exV)]⟩)
   (fun q=>wgt q.2.1 q.2.2.1<q.1∧extrasG q.1 q.2.1 q.2.2.1 q.2.2.2=E∧q.2.1.length≤1000000∧q.1+q.2.2.2.length≤2000000) (fun q=>q.1) (wgt s0 b0+1,s0,b0,[]) rfl ⟨Nat.lt_succ_self _,hE,p1,by simp only [List.length_nil,wgt]; split <;> omega⟩ ⟨rfl,by rfl⟩ (fun q hq R hR=>?_)
  obtain ⟨f,s,b,acc⟩:=q
  simp only at hq
  obtain ⟨h1,h2,h3,h4⟩:=hq
  simp only at hR ⊢
  obtain ⟨f,rfl⟩:∃ g,f=g+1:=⟨f - 1,by omega⟩
  cases hb:b with
  | true =>
   subst hb
   have e:E=(s,true,acc):=by rw [← h2]; unfold extrasG; rw [if_neg (by simp)]
   rw [e]
   simp only [b_cextras_1,t_cextras_1,r_cextras,go_sem,reduceDiv,reduceMod,↓reduceIte,Nat.reduceBEq,reduceSub,reduceAdd,reduceCtorEq]
  | false =>
   subst hb
   cases hn:hasPrefix s [10] with
   | true =>
    have e:E=(s,false,acc):=by rw [← h2]; unfold extrasG; rw [if_neg (by rw [hn]; simp)]
    rw [e]
    simp only [b_cextras_1,t_cextras_1,r_cextras,phiExt_3,hasPreS,hn,go_sem,reduceDiv,reduceMod,↓reduceIte,Nat.reduceBEq,reduceSub,reduceAdd,reduceCtorEq]
   | false =>
    have e:extrasG f (extra1 s).1 (extra1 s).2.2.1 (acc ++ [(extra1 s).2.2.2])=E:=by rw [← h2]; conv=>rhs; unfold extrasG; rw [if_pos ⟨rfl,hn⟩]
    have hdec:=extra1_dec s
    have hw0:wgt s false=s.length+1:=rfl
    have hm:=mustG_len s false []
    have hc1:=cutl1 (mustG s false []).1 [32]
    have hc2:=cutl2 (mustG s false []).1 [32]
    simp only [b_cextras_1,phiExt_1,phiExt_3,phiExt_4,mustS,hasPreS,cutS,hn,go_sem,reduceDiv,reduceMod,↓reduceIte,reduceSub,Nat.reduceLT,reduceAdd,reduceLeDiff,reduceCtorEq]
    have hd0:(mustG s false []).1.length+(mustG s false []).2.1.length≤s.length:=by
     unfold mustG
     cases h:lineG s [] with
     | none=>simp
     | some p =>
      obtain ⟨x,rr⟩:=p
      unfold lineG at h
      split at h
      ·rename_i hcc
       injection h with h; injection h with h5 h6; subst h5 h6
       have:=congrArg List.length (cut_t hcc.1)
       simp only [List.length_append,List.length_cons,List.length_nil] at this
       simp only [List.length_drop]; omega
      ·cases h
    refine ⟨by omega,by omega,?_⟩
    unfold extra1 at e hdec
    simp only at e hdec
    generalize mustG s false []=M at *
    generalize cut M.1 [32]=C at *
    generalize hZ:contG (M.2.1.length+1) M.2.1 C.2.1=Z at *
    refine loop2P [] [0,3,7,8] [0,1,2] (fun q:Nat × List UInt8 × List UInt8=>⟨[(0,.ref 0 0 0),(3,.own 1 acc.length),(7,.bool C.2.2),(8,.ref 2 0 0)],[.cells T [(1,.str q.2.1),(1,.bool M.2.2)],.row 69 2 acc.length (acc.map exV),.cells 69 [(1,.str C.1),(1,.str q.2.2)]]⟩)
     (fun q=>q.2.1.length<q.1∧contG q.1 q.2.1 q.2.2=Z∧q.2.1.length+q.2.2.length≤2000000) (fun q=>q.1) (M.2.1.length+1,M.2.1,C.2.1) rfl ⟨Nat.lt_succ_self _,hZ,by simp only; omega⟩ ⟨rfl,by rfl⟩ (fun q hq R2 hR2=>?_)
    obtain ⟨g,s',v⟩:=q
    simp only at hq
    obtain ⟨i1,i2,i3⟩:=hq
    simp only at hR2 ⊢
    obtain ⟨g,rfl⟩:∃ k,g=k+1:=⟨g - 1,by omega⟩
    unfold contG at i2
    cases hl:lineG s' [32] with
    | some p =>
     obtain ⟨m,rr⟩:=p
     rw [hl] at i2
     simp only at i2
     have hll:=lineG_len hl
     have hcc:m.length+1+1+rr.length≤s'.length:=by
      have hx:=contG_s 1 s' []
      unfold contG at hx
      rw [hl] at hx
      have hy:=hl
      unfold lineG at hy
      split at hy
      ·rename_i hcc
       injection hy with hy; injection hy with h5 h6; subst h5 h6
       have:=congrArg List.length (cut_t hcc.1)
       simp only [List.length_append,List.length_cons,List.length_nil] at this
       have h3:[(32:UInt8)].isPrefixOf (cut s' [10]).1=true:=hcc.2
       rw [List.isPrefixOf_iff_prefix] at h3
       have h4:=h3.length_le
       simp only [List.length_drop,List.length_cons,List.length_nil] at h4 ⊢
       omega
      ·cases hy
     simp only [b_cextras_0,phiExt_2,lineS,hl,lineR,go_sem,reduceDiv,reduceMod,↓reduceIte,Nat.reduceBEq,reduceSub,Nat.reduceLT,reduceAdd,reduceCtorEq,Int.reduceLT]
     refine ⟨by omega,by (first | omega | (simp only [lenOk]; omega)),by (first | omega | (simp only [lenOk]; omega)),hR2 _ (g,rr,v ++ ([10] ++ m)) ⟨by simp only; omega,i2,by simp only [List.length_append,List.length_cons,List.length_nil]; omega⟩ (by simp only; omega) rfl⟩
    | none =>
     rw [hl] at i2
     simp only at i2
     subst i2
     simp only at e hdec
     have hlen:(acc.map exV ++ [AV.agg [(1,AV.str C.1),(1,AV.str v)]]).length=acc.length+1:=by simp
     simp only [b_cextras_0,phiExt_2,lineS,hl,lineR,go_sem,reduceDiv,reduceMod,↓reduceIte,reduceEqDiff,Nat.reduceBEq,Nat.reduceLT,reduceAdd,Int.reduceLT]
     refine ⟨by omega,?_⟩
     have fin:∀ (bb:Bool) s'',bb=(M.2.2 || !C.2.2 || !extraB C.1)→kp [0,3] [0,1].length (toS s'')=some ⟨[(0,.ref 0 0 0),(3,.own 1 (acc.length+1))],[.cells T [(1,.str s'),(1,.bool bb)],.row 69 2 (acc.length+1) (acc.map exV ++ [.agg [(1,.str C.1),(1,.str v)]])]⟩→R s'' := by
      intro bb s'' hbb hk
      refine hR s'' (f,s',bb,acc ++ [(C.1,v)]) ⟨?_,?_,?_,?_⟩ ?_ ?_
      ·simp only; rw [hbb]; rw [hw0] at h1 hdec; omega
      ·simp only; rw [hbb]; exact e
      ·simp only; rw [hw0] at hdec; unfold wgt at hdec; omega
      ·simp only [List.length_append,List.length_cons,List.length_nil]; omega
      ·simp only; omega
      ·rw [hk]
       simp only [List.length_append,List.length_cons,List.length_nil,List.map_append,List.map_cons,List.map_nil,exV]
     cases h1:M.2.2 with
     | true =>
      rw [h1] at fin
      simp only [t_cextras_0,go_sem,reduceDiv,reduceMod,↓reduceIte,reduceSub,reduceAdd,reduceLeDiff,reduceCtorEq]
      exact ⟨⟨by rw [hlen]; (first | omega | (simp only [lenOk]; omega)),by rw [hlen]; (first | omega | (simp only [bytesOk]; omega))⟩,fin true _ rfl rfl⟩
     | false =>
      cases h2:C.2.2 with
      | false =>
       rw [h1,h2] at fin
       simp only [t_cextras_0,go_sem,reduceDiv,reduceMod,↓reduceIte,reduceSub,reduceAdd,reduceLeDiff,reduceCtorEq]
       exact ⟨⟨by rw [hlen]; (first | omega | (simp only [lenOk]; omega)),by rw [hlen]; (first | omega | (simp only [bytesOk]; omega))⟩,fin true _ rfl rfl⟩
      | true =>
       rw [h1,h2] at fin
       simp only [t_cextras_0,phiExt_5,cextraS,go_sem,reduceDiv,reduceMod,↓reduceIte,reduceSub,reduceAdd,reduceLeDiff,reduceCtorEq]
       exact ⟨by omega,⟨by rw [hlen]; (first | omega | (simp only [lenOk]; omega)),by rw [hlen]; (first | omega | (simp only [bytesOk]; omega))⟩,fin _ _ rfl rfl⟩
 ·cases hs
def treW:List UInt8:=[116,114,101,101,32]
def parW:List UInt8:=[112,97,114,101,110,116,32]
def autW:List UInt8:=[97,117,116,104,111,114,32]
def comW:List UInt8:=[99,111,109,109,105,116,116,101,114,32]
def parentsG:Nat→List UInt8→Bool→List (List UInt8)→List UInt8 × Bool × List (List UInt8)
 | 0,s,b,acc=>(s,b,acc)
 | f+1,s,b,acc=>if b=false∧hasPrefix s parW=true then parentsG f (mustG s b parW).2.1 ((mustG s b parW).2.2 || !goodQ (mustG s b parW).1) (acc ++ [pOut (mustG s b parW).1]) else (s,b,acc)
theorem parents_dec (s:List UInt8):wgt (mustG s false parW).2.1 ((mustG s false parW).2.2 || !goodQ (mustG s false parW).1)<wgt s false:=by
 have h2:=(mustG_len s false parW).2
 have hx:∀ b:Bool,(if b=true then 0 else 1:Nat)≤1:=by intro b; split <;> omega
 unfold wgt
 rcases mustG_dec s parW false with h | h
 ·simp only [h,Bool.true_or,if_true]; simp; omega
 ·have h3:=hx ((mustG s false parW).2.2 || !goodQ (mustG s false parW).1)
  show _<s.length+1
  omega
theorem parentsG_len:∀ (f:Nat) (s:List UInt8) (b:Bool) (acc:List (List UInt8)),(parentsG f s b acc).1.length≤s.length∧(∀ p∈acc,p.length=20)→(∀ p∈(parentsG f s b acc).2.2,p.length=20):=by
 intro f
 induction f with
 | zero=>intro s b acc h; exact h.2
 | succ f ih =>
  intro s b acc h
  unfold parentsG at h ⊢
  split
  ·rename_i hc
   rw [if_pos hc] at h
   refine ih _ _ _ ⟨?_,fun p hp=>?_⟩
   ·have:=(parentsG_l f (mustG s b parW).2.1 ((mustG s b parW).2.2 || !goodQ (mustG s b parW).1) (acc ++ [pOut (mustG s b parW).1]))
    exact this
   ·rcases List.mem_append.1 hp with hp | hp
    ·exact h.2 p hp
    ·rw [List.mem_singleton.1 hp]; exact pOut_len _
  ·exact h.2
where
 parentsG_l:∀ (f:Nat) (s:List UInt8) (b:Bool) (acc:List (List UInt8)),(parentsG f s b acc).1.length≤s.length:=by
  intro f
  induction f with
  | zero=>intro s b acc; exact Nat.le_refl _
  | succ f ih =>
   intro s b acc
   unfold parentsG
   split
   ·have:=ih (mustG s b parW).2.1 ((mustG s b parW).2.2 || !goodQ (mustG s b parW).1) (acc ++ [pOut (mustG s b parW).1])
    have:=(mustG_len s b parW).2
    omega
   ·exact Nat.le_refl _
theorem extrasG_len:∀ (f:Nat) (s:List UInt8) (b:Bool) (acc:List ExL),(extrasG f s b acc).1.length≤s.length:=by
 intro f
 induction f with
 | zero=>intro s b acc; exact Nat.le_refl _
 | succ f ih =>
  intro s b acc
  unfold extrasG
  split
  ·have h1:=ih (extra1 s).1 (extra1 s).2.2.1 (acc ++ [(extra1 s).2.2.2])
   have h2:=(contG_len ((mustG s false []).2.1.length+1) (mustG s false []).2.1 (cut (mustG s false []).1 [32]).2.1).1
   have h3:=(mustG_len s false []).2
   have h4:(extra1 s).1.length≤s.length:=by unfold extra1; simp only; omega
   omega
  ·exact Nat.le_refl _
def pM (s:List UInt8):=mustG s false treW
def pB0 (s:List UInt8):Bool:=(pM s).2.2 || !goodQ (pM s).1
def pP (s:List UInt8):=parentsG (wgt (pM s).2.1 (pB0 s)+1) (pM s).2.1 (pB0 s) []
def pA (s:List UInt8):=mustG (pP s).1 (pP s).2.1 autW
noncomputable def pB1 (s:List UInt8):Bool:=(pA s).2.2 || !personB (pA s).1
noncomputable def pC (s:List UInt8):=mustG (pA s).2.1 (pB1 s) comW
noncomputable def pB2 (s:List UInt8):Bool:=(pC s).2.2 || !personB (pC s).1
noncomputable def pE (s:List UInt8):=extrasG (wgt (pC s).2.1 (pB2 s)+1) (pC s).2.1 (pB2 s) []
noncomputable def pL (s:List UInt8):=mustG (pE s).1 (pE s).2.1 []
noncomputable def parC11 (s:List UInt8):ComL:=⟨pOut (pM s).1,(pP s).2.2,personV (pA s).1,personV (pC s).1,(pE s).2.2,(pL s).2.1⟩
noncomputable def parB11 (s:List UInt8):Bool:=!(pL s).2.2 && decide ((pL s).1=[])
def comPs (t:List UInt8) (P:AV) (a c:WhoL) (E:AV) (m:List UInt8):List (Nat × AV) :=
 [(20,.blob (t.map U)),(1,P),(1,.str a.name),(1,.str a.mail),(1,.int .i64 a.time),(1,.str a.zone),(1,.str c.name),(1,.str c.mail),(1,.int .i64 c.time),(1,.str c.zone),(1,E),(1,.str m)]
def z20L:List UInt8:=List.replicate 20 0
def com0:List (Nat × AV):=comPs z20L (.con (.slice none 0 0)) who0 who0 (.con (.slice none 0 0)) []
def parR11 (c:ComL) (ok:Bool) (pr:Prop):Option Ret:=if ok=true then
  some ⟨.tup [.agg (comPs c.tree (.own 0 c.parents.length) c.author c.committer (.own 1 c.extras.length) c.message),.int .i64 0],[.row 29 20 c.parents.length (c.parents.map idAV),.row 69 2 c.extras.length (c.extras.map exV)],pr⟩
 else some ⟨.tup [.agg com0,.int .i64 4],[],pr⟩
noncomputable def cparS:Spec:=fun xs hp=>match xs,hp with
 | [.sl 1 bs],[]=>parR11 (parC11 (unB bs)) (parB11 (unB bs)) (bs=Bs (unB bs)∧bs.length≤1000000)
 | _,_=>none
theorem parR11_pre {c:ComL} {ok:Bool} {pr:Prop} {r:Ret} (h:parR11 c ok pr=some r) (hr:r.pre):pr:=by
 unfold parR11 at h
 split at h <;> (injection h with h; subst h; exact hr)
noncomputable def phiPar:Phi:=phiL [(92,[],cidS),(93,[],cwhoS),(94,[],cextrasS),(95,[],mustS),(84,[],hasPreS)]
theorem phiPar_ok:PhiOk Tryz.prog phiPar:=phi_cons cid_ok (by kernel_rfl) (phi_cons cwho_ok (by kernel_rfl) (phi_cons cextras_ok (by kernel_rfl) (phi_cons must_ok (by kernel_rfl) (phi_cons hasPre_ok (by kernel_rfl) phi_nil))))
theorem phiPar_1:phiPar 92=some ([],cidS):=rfl
theorem phiPar_2:phiPar 93=some ([],cwhoS):=rfl
theorem phiPar_3:phiPar 94=some ([],cextrasS):=rfl
theorem phiPar_4:phiPar 95=some ([],mustS):=rfl
theorem phiPar_5:phiPar 84=some ([],hasPreS):=rfl
theorem z20U:(List.replicate 20 (Value.int .u8 0))=z20L.map U:=rfl
set_option maxHeartbeats 4000000 in
theorem cpar_ok:FnOk Tryz.prog 65 cparS:=by
 refine fn_slim2 Tryz.func65 s_cpar phiPar_ok ?_
 intro xs hp r hs hp'
 unfold cparS at hs
 split at hs
 ·rename_i bs
  obtain ⟨q1,p1⟩:=parR11_pre hs hp'
  generalize unB bs=s at *
  subst q1
  rw [Bs_len] at p1
  refine ⟨len_le (by kernel_rfl),?_⟩
  have hM:=mustG_len s false treW
  have hM0:mustG s false [116,114,101,101,32]=pM s:=rfl
  have hM1:mustG s false treW=pM s:=rfl
  have hB0:((pM s).2.2 || !goodQ (pM s).1)=pB0 s:=rfl
  rw [hM1] at hM
  simp only [c_cpar,phiPar_1,cidS,unB_Bs,z20U,pOut_len,hM0,hB0,go_sem,reduceDiv,reduceMod,↓reduceIte,reduceSub,reduceAdd,reduceLeDiff,reduceCtorEq]
  refine ⟨by omega,?_⟩
  have hPP:parentsG (wgt (pM s).2.1 (pB0 s)+1) (pM s).2.1 (pB0 s) []=pP s:=rfl
  refine loop2P [(4225,29,20)] [2,4,5] [0,1,2,3] (fun q:Nat × List UInt8 × Bool × List (List UInt8)=>⟨[(2,.ref 0 0 0),(4,.ref 1 0 0),(5,.ref 2 0 0)],
   [.cells 34 com0,.cells 141 [(1,.str q.2.1),(1,.bool q.2.2.1)],.cells 34 (comPs (pOut (pM s).1) (.own 3 q.2.2.2.length) who0 who0 (.con (.slice none 0 0)) []),.row 29 20 q.2.2.2.length (q.2.2.2.map idAV)]⟩)
   (fun q=>wgt q.2.1 q.2.2.1<q.1∧parentsG q.1 q.2.1 q.2.2.1 q.2.2.2=pP s∧q.2.1.length≤1000000∧q.1+q.2.2.2.length≤2000000) (fun q=>q.1) (wgt (pM s).2.1 (pB0 s)+1,(pM s).2.1,pB0 s,[]) rfl ⟨Nat.lt_succ_self _,hPP,by simp only; omega,by simp only [List.length_nil,wgt]; split <;> omega⟩ ⟨rfl,by rfl⟩ (fun q hq R hR=>?_)
  obtain ⟨f,s1,b,acc⟩:=q
  simp only at hq
  obtain ⟨h1,h2,h3,h4⟩:=hq
  simp only at hR ⊢
  obtain ⟨f,rfl⟩:∃ g,f=g+1:=⟨f - 1,by omega⟩
  have exitK:¬ (b=false∧hasPrefix s1 parW=true)→pP s=(s1,b,acc):=by
   intro h; rw [← h2]; unfold parentsG; rw [if_neg h]
  have tail:∀ y0 y1 y2 y3 y4 y5 y6 y7 y8 y9 y10 y11 y12 y13 y14 y15:AV,pP s=(s1,b,acc)→awp2 phiPar 0 t_cpar_0 (retQ2 r_cpar 0 r) ⟨[[.top,.top,.ref 0 0 0,.top,.ref 1 0 0,.ref 2 0 0,.top,.top,.top,.top,.top,.top,.top,.top,.top,.top],[y0,y1,y2,y3,y4,y5,y6,y7,y8,y9,y10,y11,y12,y13,y14,y15]],
   [.cells 34 com0,.cells 141 [(1,.str s1),(1,.bool b)],.cells 34 (comPs (pOut (pM s).1) (.own 3 acc.length) who0 who0 (.con (.slice none 0 0)) []),.row 29 20 acc.length (acc.map idAV)]⟩:=by
   intro y0 y1 y2 y3 y4 y5 y6 y7 y8 y9 y10 y11 y12 y13 y14 y15 e
   have hA:mustG s1 b [97,117,116,104,111,114,32]=pA s:=by unfold pA; rw [e]; rfl
   have hB1:((pA s).2.2 || !personB (pA s).1)=pB1 s:=rfl
   have hC:mustG (pA s).2.1 (pB1 s) [99,111,109,109,105,116,116,101,114,32]=pC s:=rfl
   have hB2:((pC s).2.2 || !personB (pC s).1)=pB2 s:=rfl
   have hE:extrasG (wgt (pC s).2.1 (pB2 s)+1) (pC s).2.1 (pB2 s) []=pE s:=rfl
   have hL:mustG (pE s).1 (pE s).2.1 []=pL s:=rfl
   have l1:(pA s).2.1.length≤s1.length:=by rw [← hA]; exact (mustG_len _ _ _).2
   have l2:(pC s).2.1.length≤(pA s).2.1.length:=by rw [← hC]; exact (mustG_len _ _ _).2
   have l3:(pE s).1.length≤(pC s).2.1.length:=extrasG_len _ _ _ _
   have bad:parB11 s=false→r=⟨.tup [.agg com0,.int .i64 4],[],r.pre⟩:=by
    intro h
    unfold parR11 at hs
    rw [if_neg (by rw [h]; simp)] at hs
    injection hs with hs; subst hs; rfl
   cases h5:(pL s).2.2 with
   | true =>
    rw [bad (by unfold parB11; rw [h5]; rfl)]
    simp only [t_cpar_0,r_cpar,comPs,com0,who0,phiPar_2,phiPar_3,phiPar_4,cwhoS,cextrasS,mustS,whoP,hA,hB1,hC,hB2,hE,hL,z20U,h5,go_sem,reduceDiv,reduceMod,↓reduceIte,reduceSub,Nat.reduceLT,reduceAdd,reduceLeDiff,reduceCtorEq]
    exact ⟨by omega,by omega,by omega,by omega⟩
   | false =>
    by_cases h6:(pL s).1=[]
    ·have d6:decide ((pL s).1=[])=true:=decide_eq_true h6
     have ok:parB11 s=true:=by unfold parB11; rw [h5,d6]; rfl
     unfold parR11 at hs
     rw [if_pos ok] at hs
     injection hs with hs; subst hs
     unfold parC11
     simp only [e]
     simp only [t_cpar_0,r_cpar,comPs,com0,who0,phiPar_2,phiPar_3,phiPar_4,cwhoS,cextrasS,mustS,whoP,hA,hB1,hC,hB2,hE,hL,z20U,h5,d6,go_sem,reduceDiv,reduceMod,↓reduceIte,reduceEqDiff,Nat.reduceBEq,reduceSub,Nat.reduceLT,reduceAdd,reduceLeDiff,reduceCtorEq]
     exact ⟨by omega,by omega,by omega,by omega⟩
    ·have d6:decide ((pL s).1=[])=false:=decide_eq_false h6
     rw [bad (by unfold parB11; rw [d6]; simp)]
     simp only [t_cpar_0,r_cpar,comPs,com0,who0,phiPar_2,phiPar_3,phiPar_4,cwhoS,cextrasS,mustS,whoP,hA,hB1,hC,hB2,hE,hL,z20U,h5,d6,go_sem,reduceDiv,reduceMod,↓reduceIte,reduceSub,Nat.reduceLT,reduceAdd,reduceLeDiff,reduceCtorEq]
     exact ⟨by omega,by omega,by omega,by omega⟩
  cases hb:b with
  | true =>
   subst hb
   simp only [b_cpar_0,comPs,com0,who0,go_sem,reduceDiv,reduceMod,↓reduceIte,reduceSub,reduceAdd,reduceCtorEq]
   exact tail _ _ _ _ _ _ _ _ _ _ _ _ _ _ _ _ (exitK (by simp))
  | false =>
   subst hb
   cases hn:hasPrefix s1 parW with
   | false =>
    have hn' : hasPrefix s1 [112,97,114,101,110,116,32]=false:=hn
    simp only [b_cpar_0,comPs,com0,who0,phiPar_5,hasPreS,hn',go_sem,reduceDiv,reduceMod,↓reduceIte,reduceSub,reduceAdd,reduceCtorEq]
    exact tail _ _ _ _ _ _ _ _ _ _ _ _ _ _ _ _ (exitK (by rw [hn]; simp))
   | true =>
    have hn' : hasPrefix s1 [112,97,114,101,110,116,32]=true:=hn
    simp only [b_cpar_0,comPs,com0,who0,phiPar_1,phiPar_5,cidS,hasPreS,z20U,pOut_len,hn',go_sem,reduceDiv,reduceMod,↓reduceIte,reduceSub,reduceAdd,reduceCtorEq]
    have hm:mustG s1 false [112,97,114,101,110,116,32]=mustG s1 false parW:=rfl
    have hlen:(acc.map idAV ++ [AV.blob ((pOut (mustG s1 false [112,97,114,101,110,116,32]).1).map U)]).length=acc.length+1:=by simp
    have hdec:=parents_dec s1
    have hw0:wgt s1 false=s1.length+1:=rfl
    have hml:=mustG_len s1 false parW
    have e2:parentsG f (mustG s1 false parW).2.1 ((mustG s1 false parW).2.2 || !goodQ (mustG s1 false parW).1) (acc ++ [pOut (mustG s1 false parW).1])=pP s:=by rw [← h2]; conv=>rhs; unfold parentsG; rw [if_pos ⟨rfl,hn⟩]
    refine ⟨by omega,⟨by rw [hlen]; (first | omega | (simp only [lenOk]; omega)),by rw [hlen]; (first | omega | (simp only [bytesOk]; omega))⟩,hR _ (f,(mustG s1 false parW).2.1,((mustG s1 false parW).2.2 || !goodQ (mustG s1 false parW).1),acc ++ [pOut (mustG s1 false parW).1]) ⟨by simp only; omega,e2,by simp only; omega,by simp only [List.length_append,List.length_cons,List.length_nil]; omega⟩ (by simp only; omega) ?_⟩
    simp only [List.length_append,List.length_cons,List.length_nil,List.map_append,List.map_cons,List.map_nil]
    rfl
 ·cases hs
end Go.Proofs.YtgaehhechonegaaGreatDoor
