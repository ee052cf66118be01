import Derived.Test.YtakolikdebfkeaaDoorQDecLaw
import Derived.Lib.ItoaLen
import Derived.Test.YtakolikdebfkeaaDoorChecked
import Derived.Test.YtakolikdebfkeaaDoorQInfLaw7
open Nat (reduceDiv reduceMod reduceSub reduceAdd reduceLeDiff reduceEqDiff)
set_option linter.all false
namespace Go.Proofs.YtakolikdebfkeaaDoor
open Go.RowKit
def c_few9:ACode:=(.seq (.reg none [oS 2 (.mv (.c (.con (.slice none 0 0))))]) (.seq (.reg none [oS 3 (.mv (.t 0)),oS 4 (.mv (.t 0)),oS 5 (.len none false (.t 4)),oS 6 (.mm false (.t 5) (.c (.int .i64 600))),oS 7 (.sl 1 (.t 3) none (some (.t 6))),oS 2 (.mv (.t 7))]) .ret))
def r_few9:List ARes:=[(.t 2)]
theorem s_few9:slimF Tryd.prog Tryd.f10=some (c_few9,r_few9):=by kernel_rfl
def c_known9:ACode:=(.seq (.reg none [oS 0 (.mv (.c (.bool false)))]) (.seq (.reg none [oS 4 (.call 23 [(.c (.int .i64 3)),(.c (.con (.slice none 0 0)))]),oS 3 (.mv (.t 4)),oS 5 (.ext (.t 3) 0),oS 6 (.ext (.t 3) 1),oS 1 (.new 49 [(20,(.blob (List.replicate 20 (.int .u8 0))))]),oN (.st (.arr 20) (.t 1) (.t 5)),oS 2 (.mv (.t 6))]) (.seq (.reg none [oS 7 (.mv (.t 2)),oS 8 (.bin .eql (.t 7) (.c (.int .i64 0))),oS 9 (.mv (.t 8)),oG 10 (.ld (.arr 20) (.t 1)) 9,oG 11 (.call 24 [(.t 10)]) 9,oG 12 (.bin .eql (.t 11) (.c (.str [101,54,57,100,101,50,57,98,98,50,100,49,100,54,52,51,52,98,56,98,50,57,97,101,55,55,53,97,100,56,99,50,101,52,56,99,53,51,57,49]))) 9,oS 13 (.pick (.t 9) (.t 12) (.c (.bool false))),oS 14 (.mv (.t 13)),oG 15 (.call 25 [(.c (.int .i64 4))]) 14,oG 16 (.bin .eql (.t 15) (.c (.str [116,97,103]))) 14,oS 17 (.pick (.t 14) (.t 16) (.c (.bool false))),oS 18 (.mv (.t 17)),oG 19 (.ld (.arr 20) (.t 1)) 18,oG 20 (.call 26 [(.t 19)]) 18,oG 21 (.bin .eql (.t 20) (.c (.str [111,98,106,101,99,116,115,47,101,54,47,57,100,101,50,57,98,98,50,100,49,100,54,52,51,52,98,56,98,50,57,97,101,55,55,53,97,100,56,99,50,101,52,56,99,53,51,57,49]))) 18,oS 22 (.pick (.t 18) (.t 21) (.c (.bool false))),oS 0 (.mv (.t 22))]) .ret)))
def r_known9:List ARes:=[(.t 0)]
theorem s_known9:slimF Tryd.prog Tryd.f13=some (c_known9,r_known9):=by kernel_rfl
def c_oid:ACode:=(.seq (.reg none [oS 4 (.new 49 [(20,(.blob (List.replicate 20 (.int .u8 0))))]),oS 5 (.mv (.c (.int .i64 0)))]) (.seq (.reg none [oS 9 (.mv (.t 0)),oS 10 (.mv (.t 1)),oS 11 (.call 22 [(.t 9),(.t 10)]),oS 8 (.mv (.t 11)),oS 12 (.ext (.t 8) 0),oS 13 (.ext (.t 8) 1),oS 6 (.mv (.t 12)),oS 7 (.mv (.t 13))]) (.seq (.seq (.reg none [oS 14 (.mv (.t 7)),oS 15 (.bin .neq (.t 14) (.c (.int .i64 0)))]) (.cond (.t 15) (.seq (.reg none [oS 16 (.buildA (List.replicate 20 (.int .u8 0)) []),oS 17 (.mv (.t 7)),oN (.st (.arr 20) (.t 4) (.t 16)),oS 5 (.mv (.t 17))]) .ret) .skip)) (.seq (.reg none [oS 18 (.mv (.t 6)),oS 19 (.mv (.t 1)),oS 20 (.buildSl 27 1 [(.t 18),(.t 19)]),oS 21 (.call 45 [(.t 20)]),oN (.st (.arr 20) (.t 4) (.t 21)),oS 5 (.mv (.c (.int .i64 0)))]) .ret))))
def r_oid:List ARes:=[(.c 4 (.arr 20)),(.t 5)]
theorem s_oid:slimF Tryd.prog Tryd.f23=some (c_oid,r_oid):=by kernel_rfl
def c_ofront:ACode:=(.seq (.reg none [oS 4 (.mv (.c (.con (.slice none 0 0)))),oS 5 (.mv (.c (.int .i64 0)))]) (.seq (.block 0 (.seq (.reg none [oS 7 (.mv (.t 0)),oS 8 (.call 25 [(.t 7)]),oS 9 (.bin .eql (.t 8) (.c (.str []))),oS 6 (.mv (.t 9))]) (.cond (.t 6) (.seq (.reg none [oS 4 (.mv (.c (.con (.slice none 0 0)))),oS 5 (.mv (.c (.int .i64 1)))]) .ret) (.seq (.reg none [oS 11 (.mv (.t 1)),oS 12 (.len none false (.t 11)),oS 13 (.bin .gtr (.t 12) (.c (.int .i64 16777216))),oS 10 (.mv (.t 13))]) (.cond (.t 10) (.seq (.reg none [oS 4 (.mv (.c (.con (.slice none 0 0)))),oS 5 (.mv (.c (.int .i64 2)))]) .ret) .skip))))) (.seq (.reg none [oS 14 (.mv (.t 0)),oS 15 (.call 25 [(.t 14)]),oS 16 (.bin .add (.t 15) (.c (.str [32]))),oS 17 (.mv (.t 1)),oS 18 (.len none false (.t 17)),oS 19 (.call 46 [(.t 18)]),oS 20 (.bin .add (.t 16) (.t 19)),oS 21 (.bin .add (.t 20) (.c (.str [0]))),oS 22 (.bytes 5 (.t 21)),oS 4 (.mv (.t 22)),oS 5 (.mv (.c (.int .i64 0)))]) .ret)))
def r_ofront:List ARes:=[(.t 4),(.t 5)]
theorem s_ofront:slimF Tryd.prog Tryd.f22=some (c_ofront,r_ofront):=by kernel_rfl
def c_opath:ACode:=(.seq (.reg none [oS 1 (.box 49 20 (.t 0)),oS 2 (.mv (.c (.str [])))]) (.seq (.reg none [oS 4 (.ld (.arr 20) (.t 1)),oS 5 (.call 24 [(.t 4)]),oS 3 (.mv (.t 5))]) (.seq (.reg (some [(0,false),(1,false),(2,false),(3,false),(4,false),(5,false),(6,true),(7,true)]) [oS 6 (.mv (.t 3)),oS 7 (.slS (.t 6) none (some (.c (.int .i64 2)))),oS 8 (.bin .add (.c (.str [111,98,106,101,99,116,115,47])) (.t 7)),oS 9 (.bin .add (.t 8) (.c (.str [47]))),oS 10 (.mv (.t 3)),oS 11 (.slS (.t 10) (some (.c (.int .i64 2))) none),oS 12 (.bin .add (.t 9) (.t 11)),oS 2 (.mv (.t 12))]) .ret)))
def r_opath:List ARes:=[(.t 2)]
theorem s_opath:slimF Tryd.prog Tryd.f26=some (c_opath,r_opath):=by kernel_rfl
def c_oloose:ACode:=(.seq (.reg none [oS 4 (.mv (.c (.con (.slice none 0 0)))),oS 5 (.mv (.c (.int .i64 0)))]) (.seq (.reg none [oS 9 (.mv (.t 0)),oS 10 (.mv (.t 1)),oS 11 (.call 22 [(.t 9),(.t 10)]),oS 8 (.mv (.t 11)),oS 12 (.ext (.t 8) 0),oS 13 (.ext (.t 8) 1),oS 6 (.mv (.t 12)),oS 7 (.mv (.t 13))]) (.seq (.seq (.reg none [oS 14 (.mv (.t 7)),oS 15 (.bin .neq (.t 14) (.c (.int .i64 0)))]) (.cond (.t 15) (.seq (.reg none [oS 16 (.mv (.t 7)),oS 4 (.mv (.c (.con (.slice none 0 0)))),oS 5 (.mv (.t 16))]) .ret) .skip)) (.seq (.reg none [oS 17 (.mv (.t 6)),oS 18 (.mv (.t 1)),oS 19 (.app 5 1 1 (.t 17) (.t 18)),oS 20 (.call 15 [(.t 19)]),oS 4 (.mv (.t 20)),oS 5 (.mv (.c (.int .i64 0)))]) .ret))))
def r_oloose:List ARes:=[(.t 4),(.t 5)]
theorem s_oloose:slimF Tryd.prog Tryd.f11=some (c_oloose,r_oloose):=by kernel_rfl
end Go.Proofs.YtakolikdebfkeaaDoor
namespace Go.Proofs.YtakolikdebfkeaaDoor
open Go.RowKit
def few9S:Spec:=fun xs hp=>match xs,hp with
 | [.sl 1 bs],[]=>some ⟨.sl 1 (bs.take 600),[],True⟩
 | _,_=>none
theorem few9_ok:FnOk Tryd.prog 10 few9S:=by
 refine fn_slim2 Tryd.func10 s_few9 (Φ:=phiL []) phi_nil ?_
 intro xs hp r hs hp'
 unfold few9S at hs
 split at hs
 ·injection hs with hs; subst hs
  rename_i bs
  refine ⟨len_le (by kernel_rfl),?_⟩
  simp only [c_few9,r_few9,go_sem,reduceDiv,reduceMod,↓reduceIte,reduceEqDiff,Nat.reduceBEq,reduceSub,Nat.reduceLT,reduceAdd,reduceLeDiff,reduceCtorEq,Int.reduceEq,Int.reduceNe,Int.reduceLT,Int.reduceLE,Int.reduceToNat]
  rcases Nat.le_total bs.length 600 with h | h
  ·rw [show min (bs.length:Int) 600=(bs.length:Int) by omega,List.take_of_length_le h]
   simp only [Int.toNat_natCast,List.drop_zero,List.take_length,go_sem,reduceDiv,reduceMod,↓reduceIte,reduceEqDiff,Nat.reduceBEq,reduceSub,Nat.reduceLT,reduceAdd,reduceLeDiff,reduceCtorEq,Int.reduceEq,Int.reduceNe,Int.reduceLT,Int.reduceLE,Int.reduceToNat]
   (first | omega | (simp only [lenOk,bytesOk,inI,IntKind.bits,List.length_append,Bs_len,List.length_cons,List.length_nil,List.length_map,List.length_take,List.length_drop,List.length_replicate]; omega))
  ·rw [show min (bs.length:Int) 600=600 by omega]
   simp only [Int.reduceToNat,List.drop_zero,go_sem,reduceDiv,reduceMod,↓reduceIte,reduceEqDiff,Nat.reduceBEq,reduceSub,Nat.reduceLT,reduceAdd,reduceLeDiff,reduceCtorEq,Int.reduceEq,Int.reduceNe,Int.reduceLT,Int.reduceLE,Int.reduceToNat]
   (first | omega | (simp only [lenOk,bytesOk,inI,IntKind.bits,List.length_append,Bs_len,List.length_cons,List.length_nil,List.length_map,List.length_take,List.length_drop,List.length_replicate]; omega))
 ·cases hs
end Go.Proofs.YtakolikdebfkeaaDoor
namespace Go.Proofs.YtakolikdebfkeaaDoor
open Go.RowKit
end Go.Proofs.YtakolikdebfkeaaDoor
namespace Go.Proofs.YtakolikdebfkeaaDoor
open Go.RowKit
open Go.Lib (itoa)
def frontL (k:Int) (n:Nat):List UInt8:=wordL k ++ [32] ++ itoa (n:Int) ++ [0]
theorem wordL_len (k:Int):(wordL k).length≤6:=by unfold wordL; split <;> simp
theorem itoaN_len (n:Nat) (h:n≤1000000000000):(itoa (n:Int)).length≤21:=Lib.itoa_length_le _ (by omega) (by omega)
theorem frontL_len (k:Int) (n:Nat) (h:n≤1000000000000):(frontL k n).length≤40:=by
 have h1:=wordL_len k
 have h2:=itoaN_len n h
 simp only [frontL,List.length_append,List.length_cons,List.length_nil]; omega
def frontR (k:Int) (n:Nat) (pr:Prop):Option Ret :=
 if wordL k=[] then some ⟨.tup [.con (.slice none 0 0),.int .i64 1],[],pr⟩
 else if 16777216<n then some ⟨.tup [.con (.slice none 0 0),.int .i64 2],[],pr⟩
 else some ⟨.tup [.own 0 0,.int .i64 0],[.row 5 1 0 (Bs (frontL k n))],pr⟩
def frontS:Spec:=fun xs hp=>match xs,hp with
 | [.int .i64 k,.sl 1 bs],[]=>frontR k bs.length (bs.length≤1000000000000)
 | _,_=>none
theorem frontR_w {k:Int} (n:Nat) (pr:Prop) (h:wordL k=[]):frontR k n pr=some ⟨.tup [.con (.slice none 0 0),.int .i64 1],[],pr⟩:=by unfold frontR; rw [if_pos h]
theorem frontR_l {k:Int} {n:Nat} (pr:Prop) (h:wordL k≠[]) (h2:16777216<n):frontR k n pr=some ⟨.tup [.con (.slice none 0 0),.int .i64 2],[],pr⟩:=by unfold frontR; rw [if_neg h,if_pos h2]
theorem frontR_o {k:Int} {n:Nat} (pr:Prop) (h:wordL k≠[]) (h2:¬ 16777216<n):frontR k n pr=some ⟨.tup [.own 0 0,.int .i64 0],[.row 5 1 0 (Bs (frontL k n))],pr⟩:=by unfold frontR; rw [if_neg h,if_neg h2]
theorem frontR_pre {k:Int} {n:Nat} {pr:Prop} {r:Ret} (h:frontR k n pr=some r) (hr:r.pre):pr:=by
 unfold frontR at h
 split at h
 ·injection h with h; subst h; exact hr
 ·split at h <;> (injection h with h; subst h; exact hr)
theorem front_ok:FnOk Tryd.prog 22 frontS:=by
 refine fn_slim2 Tryd.func22 s_ofront (Φ:=phiL [(25,[],wordS),(46,[],itoaS)]) (phi_cons oword_ok (by kernel_rfl) (phi_cons ndec_ok (by kernel_rfl) phi_nil)) ?_
 intro xs hp r hs hp'
 unfold frontS at hs
 split at hs
 ·rename_i k bs
  have hb:=frontR_pre hs hp'
  refine ⟨len_le (by kernel_rfl),?_⟩
  by_cases h:wordL k=[]
  ·rw [frontR_w _ _ h] at hs
   injection hs with hs; subst hs
   simp only [c_ofront,r_ofront,wordS,itoaS,h,decide_true,go_sem,reduceDiv,reduceMod,↓reduceIte,reduceEqDiff,Nat.reduceBEq,reduceSub,Nat.reduceLT,reduceAdd,reduceLeDiff,reduceCtorEq,Int.reduceEq,Int.reduceNe,Int.reduceLT,Int.reduceLE,Int.reduceToNat]
  ·have d0:decide (wordL k=[])=false:=decide_eq_false h
   by_cases h2:16777216<bs.length
   ·rw [frontR_l _ h h2] at hs
    injection hs with hs; subst hs
    have d1:decide ((16777216:Int)<(bs.length:Int))=true:=decide_eq_true (by omega)
    simp only [c_ofront,r_ofront,wordS,itoaS,d0,d1,go_sem,reduceDiv,reduceMod,↓reduceIte,reduceEqDiff,Nat.reduceBEq,reduceSub,Nat.reduceLT,reduceAdd,reduceLeDiff,reduceCtorEq,Int.reduceEq,Int.reduceNe,Int.reduceLT,Int.reduceLE,Int.reduceToNat]
   ·rw [frontR_o _ h h2] at hs
    injection hs with hs; subst hs
    have d1:decide ((16777216:Int)<(bs.length:Int))=false:=decide_eq_false (by omega)
    have l1:=wordL_len k
    have l2:=itoaN_len bs.length hb
    simp only [c_ofront,r_ofront,wordS,itoaS,d0,d1,go_sem,reduceDiv,reduceMod,↓reduceIte,reduceEqDiff,Nat.reduceBEq,reduceSub,Nat.reduceLT,reduceAdd,reduceLeDiff,reduceCtorEq,Int.reduceEq,Int.reduceNe,Int.reduceLT,Int.reduceLE,Int.reduceToNat]
    repeat' apply And.intro
    all_goals first | rfl | (first | omega | (simp only [lenOk,bytesOk,inI,IntKind.bits,List.length_append,Bs_len,List.length_cons,List.length_nil,List.length_map,List.length_take,List.length_drop,List.length_replicate]; omega))
 ·cases hs
def idR (k:Int) (l:List UInt8) (pr:Prop):Option Ret :=
 if wordL k=[] then some ⟨.tup [.blob (List.replicate 20 (.int .u8 0)),.int .i64 1],[],pr⟩
 else if 16777216<l.length then some ⟨.tup [.blob (List.replicate 20 (.int .u8 0)),.int .i64 2],[],pr⟩
 else some ⟨.tup [.blob ((sha (frontL k l.length ++ l)).map U),.int .i64 0],[],pr⟩
def idS:Spec:=fun xs hp=>match xs,hp with
 | [.int .i64 k,.sl 1 bs],[]=>idR k (unB bs) (bs=Bs (unB bs)∧bs.length≤1000000000000)
 | _,_=>none
theorem idR_pre {k:Int} {l:List UInt8} {pr:Prop} {r:Ret} (h:idR k l pr=some r) (hr:r.pre):pr:=by
 unfold idR at h
 split at h
 ·injection h with h; subst h; exact hr
 ·split at h <;> (injection h with h; subst h; exact hr)
theorem sha_len20 (l:List UInt8):(sha l).length=20:=by unfold sha; exact bytes_len _
theorem unSl_Bs (l:List UInt8):unSl (.sl 1 (Bs l))=l:=unB_Bs l
theorem id_ok:FnOk Tryd.prog 23 idS:=by
 refine fn_slim2 Tryd.func23 s_oid (Φ:=phiL [(22,[],frontS),(45,[],sumS)]) (phi_cons front_ok (by kernel_rfl) (phi_cons sum_ok (by kernel_rfl) phi_nil)) ?_
 intro xs hp r hs hp'
 unfold idS at hs
 split at hs
 ·rename_i k bs
  obtain ⟨p1,p2⟩:=idR_pre hs hp'
  refine ⟨len_le (by kernel_rfl),?_⟩
  generalize unB bs=l at *
  subst p1
  rw [Bs_len] at p2
  unfold idR at hs
  by_cases h:wordL k=[]
  ·rw [if_pos h] at hs
   injection hs with hs; subst hs
   simp only [c_oid,r_oid,frontS,frontR_w _ _ h,go_sem,reduceDiv,reduceMod,↓reduceIte,reduceEqDiff,Nat.reduceBEq,reduceSub,Nat.reduceLT,reduceAdd,reduceLeDiff,reduceCtorEq,Int.reduceEq,Int.reduceNe,Int.reduceLT,Int.reduceLE,Int.reduceToNat]
   exact p2
  ·rw [if_neg h] at hs
   by_cases h2:16777216<l.length
   ·rw [if_pos h2] at hs
    injection hs with hs; subst hs
    simp only [c_oid,r_oid,frontS,frontR_l _ h h2,go_sem,reduceDiv,reduceMod,↓reduceIte,reduceEqDiff,Nat.reduceBEq,reduceSub,Nat.reduceLT,reduceAdd,reduceLeDiff,reduceCtorEq,Int.reduceEq,Int.reduceNe,Int.reduceLT,Int.reduceLE,Int.reduceToNat]
    exact p2
   ·rw [if_neg h2] at hs
    injection hs with hs; subst hs
    have l1:=frontL_len k l.length p2
    simp only [c_oid,r_oid,frontS,frontR_o _ h h2,sumS,unSl_Bs,slB,sha_len20,go_sem,reduceDiv,reduceMod,↓reduceIte,reduceEqDiff,Nat.reduceBEq,reduceSub,Nat.reduceLT,reduceAdd,reduceLeDiff,reduceCtorEq,Int.reduceEq,Int.reduceNe,Int.reduceLT,Int.reduceLE,Int.reduceToNat]
    simp only [List.length_append]
    refine ⟨p2,?_⟩
    repeat' apply And.intro
    all_goals first | rfl | omega
 ·cases hs
def pathL (h:List UInt8):List UInt8:=[111,98,106,101,99,116,115,47] ++ h.take 2 ++ [47] ++ h.drop 2
def pathS:Spec:=fun xs hp=>match xs,hp with
 | [.blob cs],[]=>some ⟨.str (pathL (hexL (unV cs))),[],cs=(unV cs).map U∧cs.length=20⟩
 | _,_=>none
theorem path_ok:FnOk Tryd.prog 26 pathS:=by
 refine fn_slim2 Tryd.func26 s_opath (Φ:=phiL [(24,[],hexS)]) (phi_cons hex_ok (by kernel_rfl) phi_nil) ?_
 intro xs hp r hs hp'
 unfold pathS at hs
 split at hs
 ·injection hs with hs; subst hs
  rename_i cs
  obtain ⟨p1,p2⟩:=hp'
  refine ⟨len_le (by kernel_rfl),?_⟩
  generalize unV cs=l at *
  subst p1
  rw [List.length_map] at p2
  have hl:(hexL l).length=40:=by rw [hexL_length,p2]
  simp only [c_opath,r_opath,hexS,unV_U,hl,go_sem,reduceDiv,reduceMod,↓reduceIte,reduceEqDiff,Nat.reduceBEq,reduceSub,Nat.reduceLT,reduceAdd,reduceLeDiff,reduceCtorEq,Int.reduceEq,Int.reduceNe,Int.reduceLT,Int.reduceLE,Int.reduceToNat]
  generalize hexL l=h at *
  repeat' apply And.intro
  all_goals first | omega | (first | omega | (simp only [lenOk,bytesOk,inI,IntKind.bits,List.length_append,Bs_len,List.length_cons,List.length_nil,List.length_map,List.length_take,List.length_drop,List.length_replicate]; omega)) | skip
  have e:h.take 40=h:=List.take_of_length_le (by omega)
  rw [e]; rfl
 ·cases hs
end Go.Proofs.YtakolikdebfkeaaDoor
namespace Go.Proofs.YtakolikdebfkeaaDoor
open Go.RowKit
open Go.Lib (itoa atoiAll)
def atoiR (s:List UInt8):Lib.NumEnd Int→AV
 | .ok v=>.tup [.int .i64 v,.con .nilIface]
 | .range=>.tup [.int .i64 (Lib.atoiSat s),.iface 165 .top]
 | _=>.tup [.int .i64 0,.iface 165 .top]
def atoiS:Spec:=fun xs hp=>match xs,hp with
 | [.str s],[]=>some ⟨atoiR s (atoiAll s),[],s.length≤281474976710656⟩
 | _,_=>none
theorem tup2 {w:World} {S:Nat→Prop} {ρ:Rho} {x y:AV} {u v:Value} (hx:Vl1 w S ρ x u) (hy:Vl1 w S ρ y v):Vl w S ρ (.tup [x,y]) (.tuple #[u,v]) :=
 ⟨[u,v],rfl,rfl,fun i hi=>by
  match i,hi with
  | 0,_=>exact hx
  | 1,_=>exact hy⟩
theorem ifaceTop {w:World} {S:Nat→Prop} {ρ:Rho} (t:TypeId) (v:Value) (h:v.oneCell' = true):Vl1 w S ρ (.iface t .top) (.iface t v) :=
 .inr ⟨[.iface t v],.iface t .top [v] (.top _ fun u hu=>by simp only [List.mem_singleton] at hu; subst hu; exact h),rfl⟩
theorem err_cell {w:World} {S:Nat→Prop} {g:Nat} {t:TypeId} {l:List UInt8} (h:GlobOk w S) (hg:glob1 g globs=some (1,.iface t (.ptr 1 (.str l) 0 0))):∃ ev,w.cell? ⟨g,0,none⟩=some ev∧∃ te pe,ev=.iface te pe:=by
 obtain ⟨_,us,ty,fr,h2,_,h4⟩:=h.1 _ _ _ hg
 cases h2 with
 | iface _ _ vs _=>exact ⟨_,by rw [cell_of_row w g 0 _ ty fr h4]; rfl,_,_,rfl⟩
theorem atoi_ok:FnOk Tryd.prog 51 atoiS:=by
 refine fnok_of_calls fun xs0 hp r hs hp' => ?_
 unfold atoiS at hs
 split at hs
 ·rename_i s
  injection hs with hs; subst hs
  refine ⟨rfl,rfl,fun w S ρ args hS ha=>?_⟩
  obtain ⟨v,vs,rfl,hv,hr⟩:=ha.get _ _ rfl
  obtain rfl:=hr.none
  rw [hv.str]
  have hsz:(⟨s.toArray⟩:ByteArray).size=s.length:=rfl
  have hl:s.length≤281474976710656:=hp'
  rcases h:atoiAll s with v | _ | _
  ·refine (Tryd.strconv_Atoi_ok ⟨s.toArray⟩ (by rw [hsz]; omega) v h w).mono ?_
   rintro e w' ⟨rfl,hw⟩
   refine ⟨_,rfl,?_,fun _ _ _=>tup2 (.inr ⟨_,.int _ _,rfl⟩) (.inr ⟨_,.con _ rfl,rfl⟩)⟩
   rcases hw with rfl | ⟨t,rfl⟩
   ·exact Below.refl _ _
   ·exact Lib.bytesWorld_below _ _ _
  ·obtain ⟨ev,h1,te,pe,h2⟩:=err_cell ha.glob (g:=1) rfl
   refine (Tryd.strconv_Atoi_syntax ⟨s.toArray⟩ (by rw [hsz]; omega) (h.trans rfl) ev w h1 (.inr ⟨te,pe,h2⟩)).mono ?_
   rintro e w' ⟨N,rfl,_,_,hb⟩
   exact ⟨_,rfl,hb,fun _ _ _=>tup2 (.inr ⟨_,.int _ _,rfl⟩) (ifaceTop _ _ rfl)⟩
  ·obtain ⟨ev,h1,te,pe,h2⟩:=err_cell ha.glob (g:=2) rfl
   refine (Tryd.strconv_Atoi_range ⟨s.toArray⟩ (by rw [hsz]; omega) h ev w h1 (.inr ⟨te,pe,h2⟩)).mono ?_
   rintro e w' ⟨N,rfl,_,_,hb⟩
   exact ⟨_,rfl,hb,fun _ _ _=>tup2 (.inr ⟨_,.int _ _,rfl⟩) (ifaceTop _ _ rfl)⟩
 ·cases hs
end Go.Proofs.YtakolikdebfkeaaDoor
namespace Go.Proofs.YtakolikdebfkeaaDoor
open Go.RowKit
def c_right:ACode:=(.seq (.reg none [oS 2 (.mv (.c (.bool false)))]) (.seq (.reg none [oS 3 (.mv (.t 0)),oS 4 (.bin .geq (.t 3) (.c (.int .i64 0))),oS 5 (.mv (.t 4)),oG 6 (.mv (.t 0)) 5,oG 7 (.bin .lss (.t 6) (.c (.int .i64 4611686018427387904))) 5,oS 8 (.pick (.t 5) (.t 7) (.c (.bool false))),oS 2 (.mv (.t 8))]) .ret))
def r_right:List ARes:=[(.t 2)]
theorem s_right:slimF Tryd.prog Tryd.f52=some (c_right,r_right):=by kernel_rfl
theorem okN_ex:∃ f:Int→Bool,∀ n,f n=decide (0≤n∧n<4611686018427387904):=⟨fun n=>decide (0≤n∧n<4611686018427387904),fun _=>rfl⟩
noncomputable def okN:Int→Bool:=Classical.choose okN_ex
theorem okN_eq (n:Int):okN n=decide (0≤n∧n<4611686018427387904):=Classical.choose_spec okN_ex n
theorem okN_t {n:Int} (h:okN n=true):0≤n∧n<4611686018427387904:=of_decide_eq_true (by rw [← okN_eq]; exact h)
theorem okN_mk {n:Int} (h:0≤n) (h' : n<4611686018427387904):okN n=true:=by rw [okN_eq]; exact decide_eq_true ⟨h,h'⟩
theorem okN_no {n:Int} (h:n<0∨4611686018427387904≤n):okN n=false:=by rw [okN_eq]; exact decide_eq_false (by omega)
noncomputable def rightS:Spec:=fun xs hp=>match xs,hp with
 | [.int .i64 n],[]=>some ⟨.bool (okN n),[],True⟩
 | _,_=>none
theorem right_ok:FnOk Tryd.prog 52 rightS:=by
 refine fn_slim Tryd.func52 s_right (Φ:=phiL []) phi_nil ?_
 intro xs hp r hs hp'
 unfold rightS at hs
 split at hs
 ·injection hs with hs; subst hs
  rename_i n
  refine ⟨len_le (by kernel_rfl),?_⟩
  simp only [c_right,r_right,awp_scope,noG_n,noG_r,noG_x,awp_skip,awp_reg,awp_draw,awp_seq,awp_cond,awp_block,awp_loop,awp_exit,awp_ret,arun_nil,arun_op,arun_gt,arun_gf,arunD_nil,arunD_op,arunD_gt,arunD_gf,aq_some,isB_t,isB_u,isB_f,isB_g,isB_p,isU_t,isU_b,ifB_t,ifB_f,thenQ_n,thenQ_x,thenQ_r,inQ_n,inQ_r,inQ_x,retQ_n,retQ_r,exD,AOp.isH,keepN,preB,avalP,pureR,astep,stV,stN,stE,stC,aval,anew,aElems,frzS,frzH,aeff,slots,aret,ares,aress,AV.isTup,eqFs,aEqS,ofC_i,ofC_b,ofC_s,ofC_U,getD_mapU,getD_Bs,Bs_len,Int.toNat_natCast,opd,pt,tk,subp,rdP,Rt.size,Rt.isAgg,Rt.zv,aBin,aInt,aStr,arI,aUn,aToInt,aToStr,aIdxS,zv,aIdxA,aIa,aIaA,aFa,aLd,aFld,pparts,aLo,aHi,cutL,aSlS,aSl,aExt,aNck,aNilc,AV.isStr,aLen,AV.one,AV.multi,pureB,szOk,psz,drp,spl,aEqB,aEqA,aMm,aMkfn,aMkif,aBuild,toV,aBuildA,wrP,unparts,view,nilS,St.ev,lk,St.put,St.pin,St.pinV,acall0,acall1,acall2,acall3,bor,bor0,bor1,phiL_nil,phiL_at,tau,lentO,okIds,flatC,flatB,flatOs,flatO,flatPs,place,setAll_nil,setAll_cons,nodupB,renObj,closeIds,addNew,idsOf,idsObj,posOf,lenOk_0,lenOk_1,lenOk_2,lenOk_3,lenOk_4,lenOk_8,↓reduceIte,Option.isSome_none,Option.isSome_some,Bool.or_true,Bool.true_or, reduceEqDiff,Nat.reduceBEq,reduceSub,Nat.reduceLT,beq_self_eq_true,List.map,List.set,List.map_cons,List.map_nil,List.flatMap_cons,List.flatMap_nil,List.flatten_cons,List.flatten_nil,true_and,and_true,List.length_cons,List.length_nil,reduceAdd,reduceLeDiff,List.nil_append,List.cons_append,List.append_nil,Option.map,mapO,ren,kp,kpI,ent,nilG,Option.bind,List.range,List.range.loop,List.getElem?_cons_zero,List.getElem?_cons_succ,List.getElem?_nil,List.getD_cons_zero,List.getD_cons_succ,List.drop_zero,List.drop_succ_cons,List.drop_nil,List.take_zero,List.take_succ_cons,List.all_cons,List.all_nil,List.isEmpty_nil,List.isEmpty_cons,Bool.and_true,Bool.true_and,Bool.not_true,Bool.not_false,List.contains_nil,reduceCtorEq,List.contains_cons,Bool.or_false,Bool.false_or,eq_self,forall_const,false_implies,Bool.false_eq_true,Nat.le_refl,List.length_map,List.length_set,List.length_replicate,and_self,implies_true]
  refine ⟨fun h=>?_,fun h=>?_⟩
  ·have h1:=of_decide_eq_true h
   simp only [h,Bool.false_eq_true,renObj,finP,finI,closeIds,addNew,idsOf,List.flatMap_nil,List.flatMap_cons,List.append_nil,List.nil_append,List.take_zero,nodupB,posOf,idsObj,List.getD_cons_zero,List.getD_cons_succ,List.range,List.range.loop,ren,lentO,mapO,Option.map,↓reduceIte,reduceEqDiff,true_and,and_true,List.getElem?_cons_zero,List.getElem?_cons_succ,reduceAdd,List.contains_nil,Bool.not_false,Bool.and_true,List.map_nil,List.map_cons,List.take_succ_cons]
   have:okN n=decide (n<4611686018427387904):=by rw [okN_eq]; simp [h1]
   rw [this]
  ·have h1:=of_decide_eq_false h
   simp only [h,Bool.false_eq_true,renObj,finP,finI,closeIds,addNew,idsOf,List.flatMap_nil,List.flatMap_cons,List.append_nil,List.nil_append,List.take_zero,nodupB,posOf,idsObj,List.getD_cons_zero,List.getD_cons_succ,List.range,List.range.loop,ren,lentO,mapO,Option.map,↓reduceIte,reduceEqDiff,true_and,and_true,List.getElem?_cons_zero,List.getElem?_cons_succ,reduceAdd,List.contains_nil,Bool.not_false,Bool.and_true,List.map_nil,List.map_cons,List.take_succ_cons]
   have:okN n=false:=okN_no (by omega)
   rw [this]
 ·cases hs
end Go.Proofs.YtakolikdebfkeaaDoor
namespace Go.Proofs.YtakolikdebfkeaaDoor
open Go.RowKit
open Go.Lib (decDigits itoa atoiAll)
noncomputable def decB:List UInt8→Bool:=sealF fun s=>(decV s).isSome
noncomputable def decN:List UInt8→Nat:=sealF fun s=>(decV s).getD 0
theorem decBN_some {s:List UInt8} {n:Nat} (h:decV s=some n):decB s=true∧decN s=n:=by
 unfold decB decN; rw [sealF_eq,sealF_eq]; simp only [h]; exact ⟨rfl,rfl⟩
theorem decB_none {s:List UInt8} (h:decV s=none):decB s=false:=by
 unfold decB; rw [sealF_eq]; simp only [h]; rfl
theorem decB_t {s:List UInt8} (h:decB s=true):decV s=some (decN s):=by
 cases h' : decV s with
 | none=>rw [decB_none h'] at h; cases h
 | some n=>rw [(decBN_some h').2]
theorem decB_no {s:List UInt8} (h:∀ v,atoiAll s≠.ok v):decB s=false:=by
 apply decB_none; unfold decV; split
 ·rename_i v e; exact absurd e (h v)
 ·rfl
theorem decB_ok1 {s:List UInt8} {v:Int} (h:atoiAll s=.ok v) (h0:okN v=true) (h1:itoa v=s):decB s=true∧(decN s:Int)=v:=by
 obtain ⟨k1,k2⟩:=okN_t h0
 have e:decV s=some v.toNat:=by unfold decV; rw [h]; exact if_pos ⟨k1,k2,h1⟩
 obtain ⟨a,b⟩:=decBN_some e
 exact ⟨a,by omega⟩
theorem decB_ok0 {s:List UInt8} {v:Int} (h:atoiAll s=.ok v) (h1:okN v=false∨itoa v≠s):decB s=false:=by
 apply decB_none; unfold decV; rw [h]
 refine if_neg ?_
 rintro ⟨a,b,c⟩
 rcases h1 with h1 | h1
 ·rw [okN_mk a b] at h1; cases h1
 ·exact h1 c
def c_fdec:ACode:=(.seq (.reg none [oS 2 (.mv (.c (.int .i64 0))),oS 3 (.mv (.c (.int .i64 0)))]) (.seq (.reg none [oS 7 (.mv (.t 0)),oS 8 (.call 51 [(.t 7)]),oS 6 (.mv (.t 8)),oS 9 (.ext (.t 6) 0),oS 10 (.ext (.t 6) 1),oS 4 (.mv (.t 9)),oS 5 (.mv (.t 10))]) (.seq (.seq (.reg none [oS 11 (.mv (.t 5)),oS 12 (.nilc 0 true (.t 11)),oS 13 (.mv (.t 12)),oH 14 (.mv (.t 4)) 13,oH 15 (.call 52 [(.t 14)]) 13,oH 16 (.un .not (.t 15)) 13,oS 17 (.pick (.t 13) (.c (.bool true)) (.t 16)),oS 18 (.mv (.t 17)),oH 19 (.mv (.t 4)) 18,oH 20 (.call 53 [(.t 19)]) 18,oH 21 (.mv (.t 0)) 18,oH 22 (.bin .neq (.t 20) (.t 21)) 18,oS 23 (.pick (.t 18) (.c (.bool true)) (.t 22))]) (.cond (.t 23) (.seq (.reg none [oS 2 (.mv (.c (.int .i64 0))),oS 3 (.mv (.c (.int .i64 4)))]) .ret) .skip)) (.seq (.reg none [oS 24 (.mv (.t 4)),oS 2 (.mv (.t 24)),oS 3 (.mv (.c (.int .i64 0)))]) .ret))))
def r_fdec:List ARes:=[(.t 2),(.t 3)]
theorem s_fdec:slimF Tryd.prog Tryd.f29=some (c_fdec,r_fdec):=by kernel_rfl
noncomputable def fdecS:Spec:=fun xs hp=>match xs,hp with
 | [.str s],[]=>if decB s=true then some ⟨.tup [.int .i64 (decN s:Int),.int .i64 0],[],s.length≤281474976710656⟩ else some ⟨.tup [.int .i64 0,.int .i64 4],[],s.length≤281474976710656⟩
 | _,_=>none
theorem fdec_ok:FnOk Tryd.prog 29 fdecS:=by
 refine fn_slim2 Tryd.func29 s_fdec (Φ:=phiL [(51,[],atoiS),(52,[],rightS),(53,[],itoaS)]) (phi_cons atoi_ok (by kernel_rfl) (phi_cons right_ok (by kernel_rfl) (phi_cons itoa_ok (by kernel_rfl) phi_nil))) ?_
 intro xs hp r hs hp'
 unfold fdecS at hs
 split at hs
 ·rename_i s
  refine ⟨len_le (by kernel_rfl),?_⟩
  rcases h:atoiAll s with v | _ | _
  ·cases ho:okN v with
   | true =>
    obtain ⟨k1,k2⟩:=okN_t ho
    have hin:inI v:=by (first | omega | (simp only [lenOk,bytesOk,inI,IntKind.bits,List.length_append,Bs_len,List.length_cons,List.length_nil,List.length_map,List.length_take,List.length_drop,List.length_replicate]; omega))
    by_cases hi:itoa v=s
    ·obtain ⟨e1,e2⟩:=decB_ok1 h ho hi
     rw [if_pos e1] at hs; injection hs with hs; subst hs
     have d1:decide (itoa v=s)=true:=decide_eq_true hi
     simp only [c_fdec,r_fdec,atoiS,rightS,itoaS,atoiR,h,ho,e2,d1,go_sem,reduceDiv,reduceMod,↓reduceIte,reduceEqDiff,Nat.reduceBEq,reduceSub,Nat.reduceLT,reduceAdd,reduceLeDiff,reduceCtorEq,Int.reduceEq,Int.reduceNe,Int.reduceLT,Int.reduceLE,Int.reduceToNat]
     exact ⟨hp',hin⟩
    ·have e1:=decB_ok0 h (.inr hi)
     rw [if_neg (by rw [e1]; simp)] at hs; injection hs with hs; subst hs
     have d1:decide (itoa v=s)=false:=decide_eq_false hi
     simp only [c_fdec,r_fdec,atoiS,rightS,itoaS,atoiR,h,ho,d1,go_sem,reduceDiv,reduceMod,↓reduceIte,reduceEqDiff,Nat.reduceBEq,reduceSub,Nat.reduceLT,reduceAdd,reduceLeDiff,reduceCtorEq,Int.reduceEq,Int.reduceNe,Int.reduceLT,Int.reduceLE,Int.reduceToNat]
     exact ⟨hp',hin⟩
   | false =>
    have e1:=decB_ok0 h (.inl ho)
    rw [if_neg (by rw [e1]; simp)] at hs; injection hs with hs; subst hs
    simp only [c_fdec,r_fdec,atoiS,rightS,itoaS,atoiR,h,ho,go_sem,reduceDiv,reduceMod,↓reduceIte,reduceEqDiff,Nat.reduceBEq,reduceSub,Nat.reduceLT,reduceAdd,reduceLeDiff,reduceCtorEq,Int.reduceEq,Int.reduceNe,Int.reduceLT,Int.reduceLE,Int.reduceToNat]
    exact hp'
  ·have e1:=decB_no (s:=s) (by intro v; rw [h]; simp)
   rw [if_neg (by rw [e1]; simp)] at hs; injection hs with hs; subst hs
   simp only [c_fdec,r_fdec,atoiS,rightS,itoaS,atoiR,h,go_sem,reduceDiv,reduceMod,↓reduceIte,reduceEqDiff,Nat.reduceBEq,reduceSub,Nat.reduceLT,reduceAdd,reduceLeDiff,reduceCtorEq,Int.reduceEq,Int.reduceNe,Int.reduceLT,Int.reduceLE,Int.reduceToNat]
   exact hp'
  ·have e1:=decB_no (s:=s) (by intro v; rw [h]; simp)
   rw [if_neg (by rw [e1]; simp)] at hs; injection hs with hs; subst hs
   simp only [c_fdec,r_fdec,atoiS,rightS,itoaS,atoiR,h,go_sem,reduceDiv,reduceMod,↓reduceIte,reduceEqDiff,Nat.reduceBEq,reduceSub,Nat.reduceLT,reduceAdd,reduceLeDiff,reduceCtorEq,Int.reduceEq,Int.reduceNe,Int.reduceLT,Int.reduceLE,Int.reduceToNat]
   exact hp'
 ·cases hs
end Go.Proofs.YtakolikdebfkeaaDoor
namespace Go.Proofs.YtakolikdebfkeaaDoor
open Go.RowKit
open Go.Lib (itoa decDigits)
theorem dec_dig (n:Nat):∀ x∈decDigits n,48≤x.toNat∧x.toNat≤57:=by
 induction n using Nat.strongRecOn with
 | _ n ih =>
  intro x hx
  by_cases h:n<10
  ·rw [decD_small h,List.mem_singleton] at hx
   subst hx; rw [dc_toNat h]; omega
  ·rw [decD_big (by omega),List.mem_append,List.mem_singleton] at hx
   rcases hx with hx | rfl
   ·exact ih (n / 10) (by omega) x hx
   ·rw [dc_toNat (by omega)]; omega
theorem itoa_decN {s:List UInt8} (h:decB s=true):itoa (decN s:Int)=s:=by
 rw [itoa_nat]; exact (decV_some (decB_t h)).1.symm
theorem decB_nil:decB []=false:=by
 cases h:decB [] with
 | false=>rfl
 | true =>
  have:=itoa_decN h
  rw [itoa_nat] at this
  have hl:=dec_dig (decN [])
  cases hd:decDigits (decN []) with
  | nil =>
   by_cases hn:decN []<10
   ·rw [decD_small hn] at hd; cases hd
   ·rw [decD_big (by omega)] at hd; simp at hd
  | cons x l=>rw [hd] at this; cases this
end Go.Proofs.YtakolikdebfkeaaDoor
namespace Go.Proofs.YtakolikdebfkeaaDoor
open Go.RowKit
open Go.Lib (itoa decDigits cut)
variable {td : List Bool → Nat → RdE (List Nat × List Nat)}
noncomputable def objX (all:Bool) (x:List UInt8):Except Nat (Int × List UInt8) :=
 if all=false∨(cut x [0]).2.2=false∨(cut (cut x [0]).1 [32]).2.2=false∨kindN (cut (cut x [0]).1 [32]).1=0∨decB (cut (cut x [0]).1 [32]).2.1=false∨decN (cut (cut x [0]).1 [32]).2.1≠(cut x [0]).2.1.length then .error 4
 else if 16777216<(cut x [0]).2.1.length then .error 2 else .ok (kindN (cut (cut x [0]).1 [32]).1,(cut x [0]).2.1)
noncomputable def objE (td:List Bool→Nat→RdE (List Nat × List Nat)) (b:List UInt8):Except Nat (Int × List UInt8):=match zopenE td b 16777236 with
 | .error e=>.error e
 | .ok (x,n)=>objX (decide (b.length≤n)) x
theorem word_mem (k:Int):∀ c∈wordL k,97≤c.toNat:=by unfold wordL; split <;> simp
theorem front_cut {k:Int} (hk:wordL k≠[]) {body:List UInt8}:cut (frontL k body.length ++ body) [0]=(wordL k ++ 32 :: itoa (body.length:Int),body,true):=by
 have e:frontL k body.length ++ body=(wordL k ++ 32 :: itoa (body.length:Int)) ++ 0 :: body:=by unfold frontL; simp [List.append_assoc]
 rw [e]
 refine cut_1 ?_
 intro h
 rcases List.mem_append.1 h with h | h
 ·have:=word_mem k 0 h; simp at this
 ·rcases List.mem_cons.1 h with h | h
  ·cases h
  ·rw [itoa_nat] at h
   have:=(dec_dig body.length 0 h).1; simp at this
theorem front_cut2 (k:Int) (n:Nat):cut (wordL k ++ 32 :: itoa (n:Int)) [32]=(wordL k,itoa (n:Int),true):=by
 refine cut_1 ?_
 intro h
 have:=word_mem k 32 h; simp at this
theorem kind_word {k:Int} (hk:wordL k≠[]):kindN (wordL k)=k∧1≤k∧k≤4:=by
 have h1:1≤k∧k≤4:=by
  by_cases h:k<1∨4<k
  ·exact absurd (wordL_out h) hk
  ·omega
 obtain ⟨j,rfl⟩:∃ j:Nat,k=(j:Int):=⟨k.toNat,by omega⟩
 exact ⟨kindN_at (by omega) (by omega) rfl,h1⟩
theorem objX_front {k:Int} (hk:wordL k≠[]) {body:List UInt8} (hb:body.length≤16777216) (all:Bool):objX all (frontL k body.length ++ body)=if all=true then .ok (k,body) else .error 4:=by
 obtain ⟨k1,k2,k3⟩:=kind_word hk
 have hd:=decBN_some (decV_dec body.length (by omega))
 rw [← itoa_nat] at hd
 unfold objX
 rw [front_cut hk]
 simp only
 rw [front_cut2]
 simp only
 rw [k1]
 cases all with
 | false=>rfl
 | true=>rw [if_neg (by simp only [hd.1,hd.2]; simp; omega),if_neg (by omega)]; rfl
def looseL (k:Int) (body:List UInt8):List UInt8:=zwrap (frontL k body.length ++ body)
theorem obj_whole {k:Int} (hk:wordL k≠[]) {body:List UInt8} (hb:body.length≤16777216) (hf:(frontL k body.length).length≤20) (more:List UInt8):objE td (looseL k body ++ more)=if more=[] then .ok (k,body) else .error 4:=by
 unfold objE looseL
 rw [zopen_wrap _ _ (by rw [List.length_append]; omega)]
 simp only
 rw [objX_front hk hb]
 cases more with
 | nil=>rw [if_pos rfl,if_pos (by simp)]
 | cons c r=>rw [if_neg (by simp),if_neg (by simp)]
theorem obj_cut {k:Int} {body:List UInt8} (hb:body.length≤16777216) (hf:(frontL k body.length).length≤20) {n:Nat} (hn:n<(looseL k body).length)
  (htd:∀ (c x:List UInt8) p,cutT (bitsOf c).length p (td (bitsOf c) p) (td (bitsOf c ++ bitsOf x) p)):objE td ((looseL k body).take n)=.error 3:=by
 unfold objE looseL
 rw [zopen_cut _ (by rw [List.length_append]; omega) hn htd]
end Go.Proofs.YtakolikdebfkeaaDoor
namespace Go.Proofs.YtakolikdebfkeaaDoor
open Go.RowKit
def c_owhole:ACode:=(.seq (.reg none [oS 4 (.mv (.c (.con (.slice none 0 0))))]) (.seq (.reg none [oS 6 (.mv (.t 0)),oS 7 (.call 12 [(.t 6)]),oS 8 (.bytes 5 (.t 7)),oS 9 (.buildSl 5 1 [(.c (.int .u8 32))]),oS 10 (.app 5 1 1 (.t 8) (.t 9)),oS 5 (.mv (.t 10))]) (.seq (.reg none [oS 11 (.mv (.t 5)),oS 12 (.mv (.t 1)),oS 13 (.len none false (.t 12)),oS 14 (.call 34 [(.t 13)]),oS 15 (.appS 5 (.t 11) (.t 14)),oS 5 (.mv (.t 15))]) (.seq (.reg none [oS 16 (.mv (.t 5)),oS 17 (.buildSl 5 1 [(.c (.int .u8 0))]),oS 18 (.app 5 1 1 (.t 16) (.t 17)),oS 19 (.mv (.t 1)),oS 20 (.app 5 1 1 (.t 18) (.t 19)),oS 4 (.mv (.t 20))]) .ret))))
def r_owhole:List ARes:=[(.t 4)]
theorem s_owhole:slimF Tryd.prog Tryd.f16=some (c_owhole,r_owhole):=by kernel_rfl
end Go.Proofs.YtakolikdebfkeaaDoor
namespace Go.Proofs.YtakolikdebfkeaaDoor
open Go.RowKit
open Go.Lib (itoa)
def wholeS:Spec:=fun xs hp=>match xs,hp with
 | [.int .i64 k,.sl 1 bs],[]=>some ⟨.own 0 4,[.row 5 1 4 (Bs (frontL k (unB bs).length ++ unB bs))],bs=Bs (unB bs)∧bs.length≤1000000000000⟩
 | _,_=>none
theorem whole_ok:FnOk Tryd.prog 16 wholeS:=by
 refine fn_slim2 Tryd.func16 s_owhole (Φ:=phiL [(12,[],wordS),(34,[],itoaS)]) (phi_cons rword_ok (by kernel_rfl) (phi_cons rdec_ok (by kernel_rfl) phi_nil)) ?_
 intro xs hp r hs hp'
 unfold wholeS at hs
 split at hs
 ·injection hs with hs; subst hs
  rename_i k bs
  obtain ⟨p1,p2⟩:=hp'
  refine ⟨len_le (by kernel_rfl),?_⟩
  generalize unB bs=l at *
  subst p1
  rw [Bs_len] at p2
  have l1:=wordL_len k
  have l2:=itoaN_len l.length p2
  simp only [c_owhole,r_owhole,wordS,itoaS,go_sem,reduceDiv,reduceMod,↓reduceIte,reduceEqDiff,Nat.reduceBEq,reduceSub,Nat.reduceLT,reduceAdd,reduceLeDiff,reduceCtorEq,Int.reduceEq,Int.reduceNe,Int.reduceLT,Int.reduceLE,Int.reduceToNat]
  simp only [List.length_append,Bs_len,List.length_cons,List.length_nil]
  repeat' apply And.intro
  all_goals first | omega | (first | omega | (simp only [lenOk,bytesOk,inI,IntKind.bits,List.length_append,Bs_len,List.length_cons,List.length_nil,List.length_map,List.length_take,List.length_drop,List.length_replicate]; omega)) | (simp [frontL,Bs,ub]; done) | skip
 ·cases hs
def known9S:Spec:=fun xs hp=>match xs,hp with
 | [],[]=>some ⟨.bool true,[],True⟩
 | _,_=>none
theorem itoa_0:itoa ((0:Nat):Int)=[48]:=by rw [itoa_nat]; first | decide | (rw [Lib.decDigits]; rfl) | (unfold Lib.decDigits; simp; done)
theorem front30:frontL 3 0=[98,108,111,98,32,48,0]:=by unfold frontL; rw [itoa_0]; rfl
theorem sha_blob:hexL (sha [98,108,111,98,32,48,0])=[101,54,57,100,101,50,57,98,98,50,100,49,100,54,52,51,52,98,56,98,50,57,97,101,55,55,53,97,100,56,99,50,101,52,56,99,53,51,57,49]:=by kernel_rfl
theorem idR30 (pr:Prop):idR 3 [] pr=some ⟨.tup [.blob ((sha [98,108,111,98,32,48,0]).map U),.int .i64 0],[],pr⟩:=by
 unfold idR
 rw [if_neg (by simp [wordL]),if_neg (by simp)]
 rw [List.length_nil,front30]; rfl
theorem known9_ok:FnOk Tryd.prog 13 known9S:=by
 refine fn_slim2 Tryd.func13 s_known9 (Φ:=phiL [(23,[],idS),(24,[],hexS),(25,[],wordS),(26,[],pathS)]) (phi_cons id_ok (by kernel_rfl) (phi_cons hex_ok (by kernel_rfl) (phi_cons oword_ok (by kernel_rfl) (phi_cons path_ok (by kernel_rfl) phi_nil)))) ?_
 intro xs hp r hs hp'
 unfold known9S at hs
 split at hs
 ·injection hs with hs; subst hs
  refine ⟨len_le (by kernel_rfl),?_⟩
  have e0:unB []=[]:=rfl
  have e1:=sha_blob
  have e2:=sha_len20 [98,108,111,98,32,48,0]
  simp only [c_known9,r_known9,idS,e0,idR30,go_sem,reduceDiv,reduceMod,↓reduceIte,reduceEqDiff,Nat.reduceBEq,reduceSub,Nat.reduceLT,reduceAdd,reduceLeDiff,reduceCtorEq,Int.reduceEq,Int.reduceNe,Int.reduceLT,Int.reduceLE,Int.reduceToNat]
  generalize sha [98,108,111,98,32,48,0]=id at *
  simp only [hexS,wordS,pathS,unV_U,e1,e2,wordL,pathL,decide_true,go_sem,reduceDiv,reduceMod,↓reduceIte,reduceEqDiff,Nat.reduceBEq,reduceSub,Nat.reduceLT,reduceAdd,reduceLeDiff,reduceCtorEq,Int.reduceEq,Int.reduceNe,Int.reduceLT,Int.reduceLE,Int.reduceToNat]
  trivial
 ·cases hs
end Go.Proofs.YtakolikdebfkeaaDoor
namespace Go.Proofs.YtakolikdebfkeaaDoor
open Go.RowKit
def fzD (hp:List AObj):Nat→AV→AV
 | 0,x=>x
 | d+1,x=>match x with
  | .own i ver=>match hp[i]? with
   | some (.row _ sz v xs)=>if v=ver∧0<sz then .sl sz xs else x
   | some (.froz sz v xs)=>if v=ver then .sl sz xs else x
   | _=>x
  | .agg ps=>.agg (ps.map fun p=>(p.1,fzD hp d p.2))
  | .con (.slice none 0 0)=>.sl 1 []
  | _=>x
def fzV (hp:List AObj):AV→AV
 | .tup l=>.tup (l.map (fzD hp 3))
 | x=>fzD hp 3 x
def pureV:AV→Bool
 | .tup l=>l.all (pureB 4)
 | x=>pureB 4 x
def rowsB (hp:List AObj):Bool:=hp.all fun o=>match o with | .row _ _ _ _=>true | .froz _ _ _=>true | _=>false
section
variable {P : Program} {f : FuncId} {sp sp1 : Spec} {w0 w : World} {F S : Nat → Prop} {ρ : Rho} {hp : List AObj}
def withRows (S:Nat→Prop) (ρ:Rho) (hp:List AObj) (b:Nat):Prop:=S b∨∃ (i:Nat) (o:AObj),hp[i]?=some o∧o.blk ρ i=some b
theorem cs_slice {x:AV} {v:Value} {A:Option Addr} {n c:Nat} {sz:Nat} {xs:List AV} (h:Vl w S ρ (.sl sz xs) (.slice A n c)):Cs w S ρ (.sl sz xs) [.slice A n c]:=by
 rcases h with h | ⟨us,h,h2⟩
 ·cases h
 ·cases h with
  | sl0 sz A' c' hc =>
   have e:(Value.slice A n c)=.slice A' 0 c' := h2
   rw [e]; exact .sl0 sz A' c' hc
  | sl sz xs us b o c' h1 h3 h4 h5 h6 h7 =>
   have e:(Value.slice A n c)=.slice (some ⟨b,o,none⟩) xs.length c' := h2
   rw [e]; exact .sl sz xs us b o c' h1 h3 h4 h5 h6 h7
theorem fzD_ok (H:HeapOk F w0 S ρ hp w):∀ (d:Nat) {x:AV} {us:List Value},Cs w S ρ x us→Cs w (withRows S ρ hp) ρ (fzD hp d x) us:=by
 have ext:∀ {x:AV} {us:List Value},Cs w S ρ x us→Cs w (withRows S ρ hp) ρ x us:=fun h=>h.ext (fun _ _=>rfl) (fun b hb=>Or.inl hb) (fun _ _ _ h=>h)
 intro d
 induction d with
 | zero=>intro x us h; exact ext h
 | succ d ih =>
  intro x us h
  cases x with
  | own i ver =>
   rw [fzD]
   cases ho:hp[i]? with
   | none=>exact ext h
   | some o =>
    cases o with
    | row e sz v xs =>
     simp only
     by_cases hc:v=ver∧0<sz
     ·rw [if_pos hc]
      obtain ⟨rfl,hsz⟩:=hc
      obtain ⟨L,us',o1,o2,o3,o4,o5,o6⟩:=H.ob i _ ho
      subst o3
      cases h with
      | own _ _ L' e1 =>
       rw [o1] at e1; injection e1 with e1; subst e1
       have hM:=o4.mem o2 o5
       have hblk:(AObj.row e L.sz v xs).blk ρ i=ablk L.A:=by simp [AObj.blk,o1]
       have hv:Vl w (withRows S ρ hp) ρ (.sl L.sz xs) (.slice L.A L.n L.c):=hM.sl hsz (fun b hb=>Or.inr ⟨i,_,ho,by rw [hblk]; exact hb⟩) (fun b hb=>Or.inl hb)
       exact cs_slice (x:=.top) (v:=undef) hv
     ·rw [if_neg hc]; exact ext h
    | cells _ _=>exact ext h
    | mp _ _=>exact ext h
    | froz sz v xs =>
     simp only
     by_cases hc:v=ver
     ·rw [if_pos hc]
      subst hc
      obtain ⟨L,o1,o2,o3,o4⟩:=H.ob i _ ho
      cases h with
      | own _ _ L' e1 =>
       rw [o1] at e1; injection e1 with e1; subst e1
       exact o4.ext (fun _ _=>rfl) (fun b hb=>Or.inl hb) (fun _ _ _ h=>by cases h)
     ·rw [if_neg hc]; exact ext h
    | gone=>exact ext h
  | agg ps =>
   rw [fzD]
   cases h with
   | agg _ uss h1 h2 h3 =>
    have hl:(ps.map fun p=>(p.1,fzD hp d p.2)).length=ps.length:=List.length_map ..
    have hg:∀ i,i<ps.length→(ps.map fun p=>(p.1,fzD hp d p.2)).getD i (0,.top)=((ps.getD i (0,.top)).1,fzD hp d (ps.getD i (0,.top)).2):=fun i hi=>by
     simp [List.getD_eq_getElem?_getD,List.getElem?_map,List.getElem?_eq_getElem hi]
    refine .agg _ uss (by rw [hl]; exact h1) (fun i hi=>?_) (fun i hi=>?_)
    ·rw [hl] at hi; rw [hg i hi]; exact h2 i hi
    ·rw [hl] at hi; rw [hg i hi]; exact ih (h3 i hi)
  | con v =>
   cases v with
   | slice A n c =>
    cases A with
    | some a=>exact ext h
    | none =>
     cases n with
     | succ n=>exact ext h
     | zero =>
      cases c with
      | succ c=>exact ext h
      | zero =>
       cases h with
       | con _ _=>exact .sl0 1 none 0 (by omega)
   | _=>exact ext h
  | _=>exact ext h
theorem fzD_nt (hp:List AObj) (d:Nat) {x:AV} (h:∀ ys,x≠.tup ys):∀ ys,fzD hp d x≠.tup ys:=by
 intro ys
 cases d with
 | zero=>exact h ys
 | succ d =>
  cases x with
  | tup l=>exact absurd rfl (h l)
  | own i ver =>
   rw [fzD]
   cases hp[i]? with
   | none=>intro hh; cases hh
   | some o =>
    cases o with
    | row e sz v xs=>simp only; split <;> (intro hh; cases hh)
    | froz sz v xs=>simp only; split <;> (intro hh; cases hh)
    | _=>intro hh; cases hh
  | con v =>
   cases v with
   | slice A n c=>cases A <;> cases n <;> cases c <;> (intro hh; cases hh)
   | _=>intro hh; cases hh
  | _=>intro hh; cases hh
theorem fzD_wrap (hp:List AObj) (d:Nat) (x:AV) (us:List Value):wrapv (fzD hp d x) us=wrapv x us:=by
 cases d with
 | zero=>rfl
 | succ d =>
  cases x with
  | own i ver =>
   rw [fzD]
   cases hp[i]? with
   | none=>rfl
   | some o =>
    cases o with
    | row e sz v xs=>simp only; split <;> rfl
    | froz sz v xs=>simp only; split <;> rfl
    | _=>rfl
  | con v =>
   cases v with
   | slice A n c=>cases A <;> cases n <;> cases c <;> rfl
   | _=>rfl
  | _=>rfl
theorem FnOk.freezeD (h:FnOk P f sp1) (hh:∀ «avs» hp r',sp «avs» hp=some r' → r'.pre→hp=[]∧∃ r,sp1 «avs» []=some r∧r.pre∧rowsB r.hp=true∧r'.v=fzV r.hp r.v∧pureV r'.v=true∧r'.hp=[]):FnOk P f sp:=by
 intro «avs» hp r' hs hp' w S ρ args H ha
 obtain ⟨rfl,r,k1,k2,k3,k4,k5,k6⟩:=hh «avs» hp r' hs hp'
 refine (h «avs» [] r k1 k2 w S ρ args H ha).mono ?_
 rintro e0 w' ⟨v,S',ρ',rfl,hv,H',hE,hS⟩
 have one1:∀ x u,pureB 4 (fzD r.hp 3 x)=true→Vl1 w' S' ρ' x u→Vl1 w' (withRows S' ρ' r.hp) ρ (fzD r.hp 3 x) u:=by
  intro x u hx hu
  rcases hu with rfl | ⟨vs,hc,hu⟩
  ·exact .inl rfl
  ·exact .inr ⟨vs,pureB_ok 4 (fzD_ok H' 3 hc) hx,by rw [hu,fzD_wrap]⟩
 refine ⟨v,withRows S' ρ' r.hp,ρ,rfl,?_,?_,⟨hE.mem,fun b hb=>Or.inl (hE.st b hb),fun _ _ _ h=>h⟩,?_⟩
 ·rw [k4] at k5 ⊢
  cases hrv:r.v with
  | tup l =>
   rw [hrv] at hv k5
   obtain ⟨vs,e1,e2,e3⟩:=hv
   refine ⟨vs,e1,by simpa using e2,fun i hi=>?_⟩
   simp only [List.length_map] at hi
   have e4:(l.map (fzD r.hp 3)).getD i .top=fzD r.hp 3 (l.getD i .top):=by
    rw [List.getD_eq_getElem?_getD,List.getElem?_map,List.getD_eq_getElem?_getD,List.getElem?_eq_getElem hi]; rfl
   rw [e4]
   refine one1 _ _ ?_ (e3 i hi)
   have:=List.all_eq_true.1 k5 (fzD r.hp 3 (l.getD i .top)) (by
    rw [List.getD_eq_getElem?_getD,List.getElem?_eq_getElem hi]; exact List.mem_map_of_mem (List.getElem_mem _))
   exact this
  | _ =>
   rw [hrv] at hv k5
   have hnt:=fzD_nt r.hp 3 (x:=r.v) (by rw [hrv]; intro ys hy; cases hy)
   rw [hrv] at hnt
   refine Vl.of1 hnt (one1 _ v ?_ (Vl.to1 (by intro xs hx; cases hx) hv))
   revert k5
   simp only [fzV]
   unfold pureV
   split
   ·rename_i l hl; exact absurd hl (hnt l)
   ·exact id
 ·rw [k6]
  refine ⟨H'.kept,fun id o ho=>by simp at ho,fun i j x y _ hx=>by simp at hx,fun id o ho=>by simp at ho,fun b hb=>?_,fun id _ v=>H.new id (Nat.zero_le _) v,fun id o ho=>by simp at ho⟩
  rcases hb with hb | ⟨i,o,ho,hb⟩
  ·exact H'.slt b hb
  ·have hro:=List.all_eq_true.1 k3 o (List.mem_of_getElem? ho)
   cases o with
   | row e sz ver xs =>
    obtain ⟨L,us,o1,o2,o3,o4,o5,o6⟩:=H'.ob i _ ho
    have hblk:(AObj.row e sz ver xs).blk ρ' i=ablk L.A:=by simp [AObj.blk,o1]
    rw [hblk] at hb
    rcases o4.2 with ⟨z1,_,_⟩ | ⟨g,cur,fr,z1,z2,_⟩
    ·rw [z1] at hb; cases hb
    ·rw [z1] at hb
     have:g=b:=by simpa [ablk] using hb
     subst this
     exact (Array.getElem?_eq_some_iff.1 z2).1
   | froz sz ver xs=>cases hb
   | _=>cases hro
 ·rintro b (hb | ⟨i,o,ho,hb⟩)
  ·exact hS b hb
  ·rcases H'.mine i _ ho b hb with h1 | h1
   ·exact .inr (.inr h1)
   ·exact .inr (.inl h1)
end
end Go.Proofs.YtakolikdebfkeaaDoor
namespace Go.Proofs.YtakolikdebfkeaaDoor
open Go.RowKit
inductive ZW (Φ:Phi) (m:Nat):ACode→(Exit→S2→Prop)→S2→Prop
 | run {c:ACode} {Q:Exit→S2→Prop} {s:S2} (Q1:Exit→S2→Prop):(∀ e s,Q1 e s→Q e s)→awp2 Φ m c Q1 s→ZW Φ m c Q s
 | seq {x y:ACode} {Q:Exit→S2→Prop} {s:S2} (K:S2→Prop):ZW Φ m x (thenQ2 K Q) s→(∀ s1,K s1→ZW Φ m y Q s1)→ZW Φ m (.seq x y) Q s
 | cond {c:Opd} {x y:ACode} {Q:Exit→S2→Prop} {s:S2} (b:Bool):(toS s).ev c=.bool b→(b=true→ZW Φ m x Q s)→(b=false→ZW Φ m y Q s)→ZW Φ m (.cond c x y) Q s
 | frz {c:ACode} {Q:Exit→S2→Prop} {s:S2} (l:List Nat) (hp:List AObj):frzH s.hp l=some hp→ZW Φ m c Q ⟨s.fr,hp⟩→ZW Φ m c Q s
 | kp {c:ACode} {Q:Exit→S2→Prop} {s:S2} (nils:List (Nat × TypeId × Nat)) (slots ids:List Nat) (s' : St):nodupB ids=true→ids.take m=List.range m→ent nils slots ids (toS s)=some s' → ZW Φ m c Q (ofS s')→ZW Φ m c Q s
section
variable {P : Program} {Φ : Phi} {F : Nat → Prop} {w0 w : World} {S0 S : Nat → Prop} {ρ0 ρ : Rho} {N m : Nat} {ds : List Deferred} {a : Act}
theorem Rel.toS {s:St} {s2:S2} (h:R2 s s2) (R:Rel F w0 S0 ρ0 N ds s a w):Rel F w0 S0 ρ0 N ds (Go.Proofs.YtakolikdebfkeaaDoor.toS s2) a w:=by
 obtain ⟨S,ρ,R⟩:=R
 have e:s.hp=(Go.Proofs.YtakolikdebfkeaaDoor.toS s2).hp:=h.1
 exact ⟨S,ρ,by rw [← e]; exact R.heap,⟨R.fr.1,fun t=>by rw [← h.lk]; exact R.fr.2 t⟩,R.size,R.dfr,R.sin,R.ext⟩
end
end Go.Proofs.YtakolikdebfkeaaDoor
namespace Go.Proofs.YtakolikdebfkeaaDoor
open Go.RowKit
inductive ZL (Φ:Phi) (m:Nat):ACode→(Exit→S2→Prop)→S2→Prop
 | zw {c:ACode} {Q:Exit→S2→Prop} {s:S2}:ZW Φ m c Q s→ZL Φ m c Q s
 | seq {x y:ACode} {Q:Exit→S2→Prop} {s:S2} (K:S2→Prop):ZL Φ m x (thenQ2 K Q) s→(∀ s1,K s1→ZL Φ m y Q s1)→ZL Φ m (.seq x y) Q s
 | frz {c:ACode} {Q:Exit→S2→Prop} {s:S2} (l:List Nat) (hp:List AObj):frzH s.hp l=some hp→ZL Φ m c Q ⟨s.fr,hp⟩→ZL Φ m c Q s
 | kp {c:ACode} {Q:Exit→S2→Prop} {s:S2} (nils:List (Nat × TypeId × Nat)) (slots ids:List Nat) (s' : St):nodupB ids=true→ids.take m=List.range m→ent nils slots ids (toS s)=some s' → ZL Φ m c Q (ofS s')→ZL Φ m c Q s
 | block {id:Nat} {c:ACode} {Q:Exit→S2→Prop} {s:S2}:ZL Φ m c (inQ2 id Q) s→ZL Φ m (.block id c) Q s
 | loop {c:ACode} {Q:Exit→S2→Prop} {s:S2} (slots:List Nat) (I:St→Prop) (μ:St→Nat):kpQ m slots (toS s) I →
   (∀ s,I s→ZL Φ m c (thenQ2 (fun s' => kpQ m slots (toS s') fun s2=>I s2∧μ s2<μ s) Q) (ofS s))→ZL Φ m (.loop c) Q s
section
variable {P : Program} {Φ : Phi} {F : Nat → Prop} {w0 w : World} {S0 S : Nat → Prop} {ρ0 ρ : Rho} {N m : Nat} {ds : List Deferred} {a : Act}
theorem kpQ_rel {slots:List Nat} {s:St} {I:St→Prop} (hm0:∀ i v L,ρ0 i v=some L→i<m) (h:kpQ m slots s I) (R:Rel F w0 S0 ρ0 N ds s a w):∃ s',I s' ∧ Rel F w0 S0 ρ0 N ds s' a w:=by
 obtain ⟨nils,ids,s',hnd,htk,hk,hI⟩:=h
 unfold ent at hk
 obtain ⟨s1,hk1,hk2⟩:=Option.bind_eq_some_iff.1 hk
 refine ⟨s',hI,kpI_ok (nilG_ok _ R hk1) hnd (fun i v L hL=>?_) hk2⟩
 have hi:=hm0 i v L hL
 have h1:(ids.take m)[i]?=some i:=by rw [htk]; simp [hi]
 rw [List.getElem?_take,if_pos hi] at h1; exact h1
end
end Go.Proofs.YtakolikdebfkeaaDoor
namespace Go.Proofs.YtakolikdebfkeaaDoor
open Go.RowKit
abbrev panT (v:Value):Ending:=.panicked [{ v,recovered:=false }]
def acP (ΦP:Phi) (s:St):AOp→Option (AV × List AObj × Prop)
 | .call f as' => stC s (acall0 s.hp s.hp.length (as'.map s.ev) (ΦP f))
 | _=>none
def stepP (Φ ΦP:Phi) (o:AOper) (s:S2) (K:S2→Prop) (T:AV→List AObj→Prop):Prop :=
 match o with
 | ⟨d,op,none⟩=>match acP ΦP (toS s) op with
  | some (x,hp,p)=>p∧T x hp
  | none=>aq2 (astep Φ (toS s) op) s d K
 | ⟨_,_,some _⟩=>False
def runP (Φ ΦP:Phi):List AOper→(S2→Prop)→(AV→List AObj→Prop)→S2→Prop
 | [],K,_,s=>K s
 | o :: r,K,T,s=>stepP Φ ΦP o s (runP Φ ΦP r K T) T
def nextP (Φ ΦP:Phi) (K:Nat→S2→Prop) (T:AV→List AObj→Prop) (s:S2) (dn:Nat):Nat→List Nat→List AOper→Prop
 | i,d :: deps,o :: l=>(if ((dn &&& 2 ^ i) == 0 && (d &&& dn) == d)=true then stepP Φ ΦP o s (K (dn ||| 2 ^ i)) T else True)∧nextP Φ ΦP K T s dn (i+1) deps l
 | _,[],[]=>True
 | _,_,_=>False
def allP (Φ ΦP:Phi) (deps:List Nat) (l:List AOper) (K:S2→Prop) (T:AV→List AObj→Prop):Nat→Nat→S2→Prop
 | 0,_,s=>K s
 | n+1,dn,s=>nextP Φ ΦP (allP Φ ΦP deps l K T n) T s dn 0 deps l
section
variable {P : Program} {Φ ΦP : Phi} {F : Nat → Prop} {w0 w : World} {S0 : Nat → Prop} {ρ0 : Rho} {N m : Nat} {ds : List Deferred} {a : Act}
inductive ZP (Φ ΦP:Phi) (m:Nat):ACode→(Exit→S2→Prop)→(AV→List AObj→Prop)→S2→Prop
 | zl {c:ACode} {Q:Exit→S2→Prop} {T:AV→List AObj→Prop} {s:S2}:ZL Φ m c Q s→ZP Φ ΦP m c Q T s
 | reg {l:List AOper} {Q:Exit→S2→Prop} {T:AV→List AObj→Prop} {s:S2}:runP Φ ΦP l (Q .normal) T s→ZP Φ ΦP m (.reg none l) Q T s
 | any {b:Bool} {hs:Hid1} {l:List AOper} {Q:Exit→S2→Prop} {T:AV→List AObj→Prop} {s:S2}:allP Φ ΦP (hs.map Prod.fst) l (Q .normal) T l.length 0 s→ZP Φ ΦP m (.reg (some ((1000,b) :: hs)) l) Q T s
 | seq {x y:ACode} {Q:Exit→S2→Prop} {T:AV→List AObj→Prop} {s:S2} (K:S2→Prop):ZP Φ ΦP m x (thenQ2 K Q) T s→(∀ s1,K s1→ZP Φ ΦP m y Q T s1)→ZP Φ ΦP m (.seq x y) Q T s
 | cond {c:Opd} {x y:ACode} {Q:Exit→S2→Prop} {T:AV→List AObj→Prop} {s:S2} (b:Bool):(toS s).ev c=.bool b→(b=true→ZP Φ ΦP m x Q T s)→(b=false→ZP Φ ΦP m y Q T s)→ZP Φ ΦP m (.cond c x y) Q T s
 | frz {c:ACode} {Q:Exit→S2→Prop} {T:AV→List AObj→Prop} {s:S2} (l:List Nat) (hp:List AObj):frzH s.hp l=some hp→ZP Φ ΦP m c Q T ⟨s.fr,hp⟩→ZP Φ ΦP m c Q T s
 | kp {c:ACode} {Q:Exit→S2→Prop} {T:AV→List AObj→Prop} {s:S2} (nils:List (Nat × TypeId × Nat)) (slots ids:List Nat) (s' : St):nodupB ids=true→ids.take m=List.range m→ent nils slots ids (toS s)=some s' → ZP Φ ΦP m c Q T (ofS s')→ZP Φ ΦP m c Q T s
 | block {id:Nat} {c:ACode} {Q:Exit→S2→Prop} {T:AV→List AObj→Prop} {s:S2}:ZP Φ ΦP m c (inQ2 id Q) T s→ZP Φ ΦP m (.block id c) Q T s
 | loop {c:ACode} {Q:Exit→S2→Prop} {T:AV→List AObj→Prop} {s:S2} (slots:List Nat) (I:St→Prop) (μ:St→Nat):kpQ m slots (toS s) I →
   (∀ s,I s→ZP Φ ΦP m c (thenQ2 (fun s' => kpQ m slots (toS s') fun s2=>I s2∧μ s2<μ s) Q) T (ofS s))→ZP Φ ΦP m (.loop c) Q T s
end
end Go.Proofs.YtakolikdebfkeaaDoor
