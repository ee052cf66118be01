import Derived.Test.YtakolikdebfkeaaDoorChecked
import Derived.Test.YtakolikdebfkeaaDoorQAM9
import Derived.Test.YtakolikdebfkeaaDoorQInfLaw7
import Derived.Test.YtakolikdebfkeaaDoorQZlCode
import Derived.Test.YtakolikdebfkeaaDoorQMem
import Derived.Shelf.Bytes.SlIndexAt
import Derived.Lib.IndexBytes
import Derived.Lib.IndexMore
import Derived.Test.YtakolikdebfkeaaDoorQObjCode
import Derived.Test.YtakolikdebfkeaaDoorQFDfl7
import Derived.Test.YtakolikdebfkeaaDoorQRawCode
import Derived.Test.YtakolikdebfkeaaDoorQArgs
import Derived.Test.YtakolikdebfkeaaDoorTie
import Derived.Test.YtakolikdebfkeaaDoorCards
import Derived.Test.YtakolikdebfkeaaDoorQAMS
import Derived.SevenTiedAt
import Derived.ProofKit
import Derived.OpenShut
import Derived.ChangeOld
import Derived.Below
import Derived.Carry
open Nat (reduceDiv reduceMod reduceSub reduceAdd reduceLeDiff reduceEqDiff)
set_option linter.all false
namespace Go.Proofs.YtakolikdebfkeaaDoor
open Go.RowKit
def b_bidx_0:ACode:=(.seq (.seq (.reg none [oS 67 (.mv (.t 8)),oS 68 (.mv (.t 9)),oS 69 (.bin .lss (.t 67) (.t 68))]) (.cond (.t 69) .skip (.exit 1))) (.block 2 (.seq (.seq (.reg none [oS 70 (.mv (.t 0)),oS 71 (.mv (.t 8)),oS 72 (.ia 1 (.int .u8 0) (.t 70) (.t 71)),oS 73 (.ld (.one (.int .u8 0)) (.t 72)),oS 74 (.mv (.t 6)),oS 75 (.bin .neq (.t 73) (.t 74))]) (.cond (.t 75) (.seq (.reg none [oS 76 (.mv (.t 0)),oS 77 (.mv (.t 8)),oS 78 (.bin .add (.t 77) (.c (.int .i64 1))),oS 79 (.mv (.t 9)),oS 80 (.sl 1 (.t 76) (some (.t 78)) (some (.t 79))),oS 81 (.mv (.t 6)),oS 82 (.call 76 [(.t 80),(.t 81)]),oS 11 (.mv (.t 82))]) (.seq (.seq (.reg none [oS 83 (.mv (.t 11)),oS 84 (.bin .lss (.t 83) (.c (.int .i64 0)))]) (.cond (.t 84) (.seq (.reg none [oS 4 (.mv (.c (.int .i64 (-1))))]) .ret) .skip)) (.reg none [oS 85 (.mv (.t 8)),oS 86 (.mv (.t 11)),oS 87 (.bin .add (.t 86) (.c (.int .i64 1))),oS 88 (.bin .add (.t 85) (.t 87)),oS 8 (.mv (.t 88))]))) .skip)) (.seq (.seq (.reg none [oS 89 (.mv (.t 0)),oS 90 (.mv (.t 8)),oS 91 (.bin .add (.t 90) (.c (.int .i64 1))),oS 92 (.ia 1 (.int .u8 0) (.t 89) (.t 91)),oS 93 (.ld (.one (.int .u8 0)) (.t 92)),oS 94 (.mv (.t 7)),oS 95 (.bin .eql (.t 93) (.t 94)),oS 96 (.mv (.t 95)),oG 97 (.mv (.t 0)) 96,oG 98 (.mv (.t 8)) 96,oG 99 (.mv (.t 8)) 96,oG 100 (.mv (.t 5)) 96,oG 101 (.bin .add (.t 99) (.t 100)) 96,oG 102 (.sl 1 (.t 97) (some (.t 98)) (some (.t 101))) 96,oG 103 (.mv (.t 1)) 96,oG 104 (.call 77 [(.t 102),(.t 103)]) 96,oS 105 (.pick (.t 96) (.t 104) (.c (.bool false)))]) (.cond (.t 105) (.seq (.reg none [oS 106 (.mv (.t 8)),oS 4 (.mv (.t 106))]) .ret) .skip)) (.seq (.reg none [oS 107 (.mv (.t 10)),oS 108 (.bin .add (.t 107) (.c (.int .i64 1))),oS 10 (.mv (.t 108))]) (.seq (.reg none [oS 109 (.mv (.t 8)),oS 110 (.bin .add (.t 109) (.c (.int .i64 1))),oS 8 (.mv (.t 110))]) (.seq (.reg none [oS 111 (.mv (.t 10)),oS 112 (.mv (.t 8)),oS 113 (.call 79 [(.t 112)]),oS 114 (.bin .gtr (.t 111) (.t 113))]) (.cond (.t 114) (.seq (.reg none [oS 115 (.mv (.t 0)),oS 116 (.mv (.t 8)),oS 117 (.sl 1 (.t 115) (some (.t 116)) none),oS 118 (.mv (.t 1)),oS 119 (.call 78 [(.t 117),(.t 118)]),oS 12 (.mv (.t 119))]) (.seq (.seq (.reg none [oS 120 (.mv (.t 12)),oS 121 (.bin .geq (.t 120) (.c (.int .i64 0)))]) (.cond (.t 121) (.seq (.reg none [oS 122 (.mv (.t 12)),oS 123 (.mv (.t 8)),oS 124 (.bin .add (.t 122) (.t 123)),oS 4 (.mv (.t 124))]) .ret) .skip)) (.seq (.reg none [oS 4 (.mv (.c (.int .i64 (-1))))]) .ret))) .skip))))))))
def b_bidx_1:ACode:=(.seq (.seq (.reg none [oS 136 (.mv (.t 15)),oS 137 (.mv (.t 17)),oS 138 (.bin .lss (.t 136) (.t 137))]) (.cond (.t 138) .skip (.exit 3))) (.block 4 (.seq (.seq (.reg none [oS 139 (.mv (.t 0)),oS 140 (.mv (.t 15)),oS 141 (.ia 1 (.int .u8 0) (.t 139) (.t 140)),oS 142 (.ld (.one (.int .u8 0)) (.t 141)),oS 143 (.mv (.t 13)),oS 144 (.bin .neq (.t 142) (.t 143))]) (.cond (.t 144) (.seq (.reg none [oS 145 (.mv (.t 0)),oS 146 (.mv (.t 15)),oS 147 (.bin .add (.t 146) (.c (.int .i64 1))),oS 148 (.mv (.t 17)),oS 149 (.sl 1 (.t 145) (some (.t 147)) (some (.t 148))),oS 150 (.mv (.t 13)),oS 151 (.call 76 [(.t 149),(.t 150)]),oS 18 (.mv (.t 151))]) (.seq (.seq (.reg none [oS 152 (.mv (.t 18)),oS 153 (.bin .lss (.t 152) (.c (.int .i64 0)))]) (.cond (.t 153) (.exit 3) .skip)) (.reg none [oS 154 (.mv (.t 15)),oS 155 (.mv (.t 18)),oS 156 (.bin .add (.t 155) (.c (.int .i64 1))),oS 157 (.bin .add (.t 154) (.t 156)),oS 15 (.mv (.t 157))]))) .skip)) (.seq (.seq (.reg none [oS 158 (.mv (.t 0)),oS 159 (.mv (.t 15)),oS 160 (.bin .add (.t 159) (.c (.int .i64 1))),oS 161 (.ia 1 (.int .u8 0) (.t 158) (.t 160)),oS 162 (.ld (.one (.int .u8 0)) (.t 161)),oS 163 (.mv (.t 14)),oS 164 (.bin .eql (.t 162) (.t 163)),oS 165 (.mv (.t 164)),oG 166 (.mv (.t 0)) 165,oG 167 (.mv (.t 15)) 165,oG 168 (.mv (.t 15)) 165,oG 169 (.mv (.t 5)) 165,oG 170 (.bin .add (.t 168) (.t 169)) 165,oG 171 (.sl 1 (.t 166) (some (.t 167)) (some (.t 170))) 165,oG 172 (.mv (.t 1)) 165,oG 173 (.call 77 [(.t 171),(.t 172)]) 165,oS 174 (.pick (.t 165) (.t 173) (.c (.bool false)))]) (.cond (.t 174) (.seq (.reg none [oS 175 (.mv (.t 15)),oS 4 (.mv (.t 175))]) .ret) .skip)) (.seq (.reg none [oS 176 (.mv (.t 15)),oS 177 (.bin .add (.t 176) (.c (.int .i64 1))),oS 15 (.mv (.t 177))]) (.seq (.reg none [oS 178 (.mv (.t 16)),oS 179 (.bin .add (.t 178) (.c (.int .i64 1))),oS 16 (.mv (.t 179))]) (.seq (.reg none [oS 180 (.mv (.t 16)),oS 181 (.mv (.t 15)),oS 182 (.bin .shr (.t 181) (.c (.int .u64 4))),oS 183 (.bin .add (.c (.int .i64 4)) (.t 182)),oS 184 (.bin .geq (.t 180) (.t 183)),oS 185 (.mv (.t 184)),oG 186 (.mv (.t 15)) 185,oG 187 (.mv (.t 17)) 185,oG 188 (.bin .lss (.t 186) (.t 187)) 185,oS 189 (.pick (.t 185) (.t 188) (.c (.bool false)))]) (.cond (.t 189) (.seq (.reg none [oS 190 (.mv (.t 0)),oS 191 (.mv (.t 15)),oS 192 (.sl 1 (.t 190) (some (.t 191)) none),oS 193 (.mv (.t 1)),oS 194 (.call 80 [(.t 192),(.t 193)]),oS 19 (.mv (.t 194))]) (.seq (.seq (.reg none [oS 195 (.mv (.t 19)),oS 196 (.bin .lss (.t 195) (.c (.int .i64 0)))]) (.cond (.t 196) (.seq (.reg none [oS 4 (.mv (.c (.int .i64 (-1))))]) .ret) .skip)) (.seq (.reg none [oS 197 (.mv (.t 15)),oS 198 (.mv (.t 19)),oS 199 (.bin .add (.t 197) (.t 198)),oS 4 (.mv (.t 199))]) .ret))) .skip))))))))
def t_bidx_0:ACode:=(.seq (.reg none [oS 4 (.mv (.c (.int .i64 (-1))))]) .ret)
def t_bidx_1:ACode:=(.seq (.reg none [oS 125 (.mv (.t 1)),oS 126 (.ia 1 (.int .u8 0) (.t 125) (.c (.int .i64 0))),oS 127 (.ld (.one (.int .u8 0)) (.t 126)),oS 13 (.mv (.t 127))]) (.seq (.reg none [oS 128 (.mv (.t 1)),oS 129 (.ia 1 (.int .u8 0) (.t 128) (.c (.int .i64 1))),oS 130 (.ld (.one (.int .u8 0)) (.t 129)),oS 14 (.mv (.t 130))]) (.seq (.reg none [oS 15 (.mv (.c (.int .i64 0)))]) (.seq (.reg none [oS 16 (.mv (.c (.int .i64 0)))]) (.seq (.reg none [oS 131 (.mv (.t 0)),oS 132 (.len none false (.t 131)),oS 133 (.mv (.t 5)),oS 134 (.bin .sub (.t 132) (.t 133)),oS 135 (.bin .add (.t 134) (.c (.int .i64 1))),oS 17 (.mv (.t 135))]) (.seq (.block 3 (.loop b_bidx_1)) t_bidx_0))))))
def c_bidx:ACode:=(.seq (.reg none [oS 4 (.mv (.c (.int .i64 0)))]) (.seq (.reg none [oS 20 (.mv (.t 1)),oS 21 (.len none false (.t 20)),oS 5 (.mv (.t 21))]) (.seq (.block 0 (.seq (.reg none [oS 23 (.mv (.t 5)),oS 24 (.bin .eql (.t 23) (.c (.int .i64 0))),oS 22 (.mv (.t 24))]) (.cond (.t 22) (.seq (.reg none [oS 4 (.mv (.c (.int .i64 0)))]) .ret) (.seq (.reg none [oS 26 (.mv (.t 5)),oS 27 (.bin .eql (.t 26) (.c (.int .i64 1))),oS 25 (.mv (.t 27))]) (.cond (.t 25) (.seq (.reg none [oS 28 (.mv (.t 0)),oS 29 (.mv (.t 1)),oS 30 (.ia 1 (.int .u8 0) (.t 29) (.c (.int .i64 0))),oS 31 (.ld (.one (.int .u8 0)) (.t 30)),oS 32 (.call 76 [(.t 28),(.t 31)]),oS 4 (.mv (.t 32))]) .ret) (.seq (.reg none [oS 34 (.mv (.t 5)),oS 35 (.mv (.t 0)),oS 36 (.len none false (.t 35)),oS 37 (.bin .eql (.t 34) (.t 36)),oS 33 (.mv (.t 37))]) (.cond (.t 33) (.seq (.seq (.reg none [oS 38 (.mv (.t 1)),oS 39 (.mv (.t 0)),oS 40 (.call 77 [(.t 38),(.t 39)])]) (.cond (.t 40) (.seq (.reg none [oS 4 (.mv (.c (.int .i64 0)))]) .ret) .skip)) (.seq (.reg none [oS 4 (.mv (.c (.int .i64 (-1))))]) .ret)) (.seq (.reg none [oS 42 (.mv (.t 5)),oS 43 (.mv (.t 0)),oS 44 (.len none false (.t 43)),oS 45 (.bin .gtr (.t 42) (.t 44)),oS 41 (.mv (.t 45))]) (.cond (.t 41) (.seq (.reg none [oS 4 (.mv (.c (.int .i64 (-1))))]) .ret) (.seq (.reg none [oS 47 (.mv (.t 5)),oS 48 (.ld (.one (.int .i64 0)) (.c (.con (.pointer (some ⟨0,0,none⟩))))),oS 49 (.bin .leq (.t 47) (.t 48)),oS 46 (.mv (.t 49))]) (.cond (.t 46) (.seq (.seq (.reg none [oS 50 (.mv (.t 0)),oS 51 (.len none false (.t 50)),oS 52 (.bin .leq (.t 51) (.c (.int .i64 64)))]) (.cond (.t 52) (.seq (.reg none [oS 53 (.mv (.t 0)),oS 54 (.mv (.t 1)),oS 55 (.call 78 [(.t 53),(.t 54)]),oS 4 (.mv (.t 55))]) .ret) .skip)) (.seq (.reg none [oS 56 (.mv (.t 1)),oS 57 (.ia 1 (.int .u8 0) (.t 56) (.c (.int .i64 0))),oS 58 (.ld (.one (.int .u8 0)) (.t 57)),oS 6 (.mv (.t 58))]) (.seq (.reg none [oS 59 (.mv (.t 1)),oS 60 (.ia 1 (.int .u8 0) (.t 59) (.c (.int .i64 1))),oS 61 (.ld (.one (.int .u8 0)) (.t 60)),oS 7 (.mv (.t 61))]) (.seq (.reg none [oS 8 (.mv (.c (.int .i64 0)))]) (.seq (.reg none [oS 62 (.mv (.t 0)),oS 63 (.len none false (.t 62)),oS 64 (.mv (.t 5)),oS 65 (.bin .sub (.t 63) (.t 64)),oS 66 (.bin .add (.t 65) (.c (.int .i64 1))),oS 9 (.mv (.t 66))]) (.seq (.reg none [oS 10 (.mv (.c (.int .i64 0)))]) (.seq (.block 1 (.loop b_bidx_0)) (.seq (.reg none [oS 4 (.mv (.c (.int .i64 (-1))))]) .ret)))))))) .skip))))))))))) t_bidx_1)))
def r_bidx:List ARes:=[(.t 4)]
theorem s_bidx:slimF Tryd.prog Tryd.f50=some (c_bidx,r_bidx):=by kernel_rfl
open Go.Shelf in
set_option maxHeartbeats 1000000 in
set_option maxRecDepth 100000 in
theorem ib_nil {P:Program} {ρ:Ren} (L:Lays.n187 P ρ) (c:Nat) (cv:Int) (w:World) :
  Calls P (ρ.f 187) #[.slice none 0 c,.int .u8 cv] w fun e w' => e=.returned (.int .i64 (-1))∧w' = w:=by
 have t3:=L.t3; have t5:=L.t5; have t37:=L.t37
 have a3:=L.a3; have a5:=L.a5; have a37:=L.a37
 have mixed:=L.mixed; have z3:=L.z3; have v3:=L.v3; have z5:=L.z5; have v5:=L.v5; have z37:=L.z37; have v37:=L.v37
 go_enter L.f187,Body.n187_ntmps ρ
 go_wp2
 rw [run_callFunc_extern L.f255 (by kernel_rfl) (by kernel_rfl) (by kernel_rfl) (e:=Extern.BytealgIndexByte.indexByte) (by kernel_rfl),Lib.run_indexByteNil w 0 c cv]
 simp only [Result.andThen]
 rw [Oper.upon_value]
 go_wp2
 go_ret
 exact ⟨rfl,rfl⟩
theorem nums_back (l:List UInt8):Lib.bytesOf (l.map fun u=>(u.toNat:Int))=l:=by
 unfold Lib.bytesOf
 rw [List.map_map]
 conv=>rhs; rw [← List.map_id l]
 apply List.map_congr_left
 intro u _
 simp
theorem addr_add (b o i:Nat):(⟨b,o,none⟩:Addr).add i=⟨b,o+i,none⟩:=by unfold Addr.add; split <;> simp_all
def bibS:Spec:=fun xs hp=>match xs,hp with
 | [.sl 1 ps,.int .u8 c],[]=>some ⟨.int .i64 (Lib.indexByte (unB ps) c.toNat.toUInt8),[],ps=Bs (unB ps)⟩
 | _,_=>none
theorem bib_ok:FnOk Tryd.prog 76 bibS:=by
 refine fnok_of_calls fun xs0 hp r hs hp' => ?_
 unfold bibS at hs
 split at hs
 ·rename_i ps c
  injection hs with hs; subst hs
  refine ⟨rfl,rfl,fun w S ρ args hS ha=>?_⟩
  obtain ⟨v,vs,rfl,hv,hr⟩:=ha.get _ _ rfl
  obtain ⟨u,us,rfl,hu,hr⟩:=hr.get _ _ rfl
  obtain rfl:=hr.none
  obtain rfl:=hu.int
  have p1:ps=Bs (unB ps):=hp'
  generalize unB ps=l at *
  subst p1
  obtain ⟨A,n,cc,us,rfl,hM⟩:=Mem.of_sl hv.sl
  obtain ⟨q1,q2⟩:=hM.rd
  have fin:∀ (e:Ending) (w' : World),(e=.returned (.int .i64 (Lib.indexByte l c.toNat.toUInt8))∧w' = w)→∃ v,e=.returned v∧Below w.heap.size w w' ∧ ∀ (w' : World) (S:Nat→Prop) (ρ:Rho),Vl w' S ρ (.int .i64 (Lib.indexByte l c.toNat.toUInt8)) v:=by
   rintro e w' ⟨rfl,rfl⟩
   exact ⟨_,rfl,Below.refl _ _,fun _ _ _=>Vl.int' _ _⟩
  cases A with
  | none =>
   have hl:l=[]:=by
    cases l with
    | nil=>rfl
    | cons a l=>obtain ⟨b,o,h,_⟩:=q1 (by simp); cases h
   subst hl
   obtain rfl:n=0:=by simpa using q2
   exact (ib_nil Tryd.lays187 cc c w).mono fun e w' h=>fin e w' h
  | some a =>
   refine (Tryd.bytes_IndexByte_at a n cc (l.map fun u=>(u.toNat:Int)) c w (by rw [List.length_map]; exact q2.symm) (fun i hi=>?_)).mono fun e w' h=>fin e w' (by rw [nums_back] at h; exact h)
   obtain ⟨b,o,h,hc⟩:=q1 (by omega)
   injection h with h; subst h
   rw [addr_add,hc i (by omega)]
   simp [at8,List.getD_eq_getElem?_getD,show i<l.length by omega]
 ·cases hs
def bidxS:Spec:=fun xs hp=>match xs,hp with
 | [.sl 1 ps,.sl 1 [.int .u8 c]],[]=>some ⟨.int .i64 (Lib.index (unB ps) [c.toNat.toUInt8]),[],ps=Bs (unB ps)⟩
 | _,_=>none
set_option maxRecDepth 8000 in
theorem bidx_ok:FnOk Tryd.prog 50 bidxS:=by
 refine fn_slim2 Tryd.func50 s_bidx (Φ:=phiL [(76,[],bibS)]) (phi_cons bib_ok (by kernel_rfl) phi_nil) ?_
 intro xs hp r hs hp'
 unfold bidxS at hs
 split at hs
 ·rename_i ps c
  injection hs with hs; subst hs
  refine ⟨len_le (by kernel_rfl),?_⟩
  rw [Lib.index_one]
  simp only [c_bidx,r_bidx,bibS,Int.toNat_natCast,go_sem,reduceDiv,reduceMod,↓reduceIte,reduceEqDiff,Nat.reduceBEq,reduceSub,Nat.reduceLT,reduceAdd,reduceLeDiff,reduceCtorEq,Int.reduceEq,Int.reduceNe,Int.reduceLT,Int.reduceLE,Int.reduceToNat]
  exact hp'
 ·cases hs
def bcutR (l:List UInt8) (c:UInt8):AV:=if 0≤Lib.index l [c] then .tup [.sl 1 (Bs (Lib.cut l [c]).1),.sl 1 (Bs (Lib.cut l [c]).2.1),.bool true] else .tup [.sl 1 (Bs l),.con (.slice none 0 0),.bool false]
def bcutS:Spec:=fun xs hp=>match xs,hp with
 | [.sl 1 ps,.own 0 v],[.row e 1 rv [.int .u8 c]]=>some ⟨bcutR (unB ps) c.toNat.toUInt8,[.row e 1 rv [.int .u8 c]],ps=Bs (unB ps)∧v=rv∧(unB ps).length≤1000000000⟩
 | _,_=>none
theorem cut_ix (l:List UInt8) (c:UInt8):(0≤Lib.index l [c])=((Lib.cut l [c]).2.2=true):=by
 unfold Lib.cut
 by_cases h:0≤Lib.index l [c]
 ·rw [if_pos h]; simp [h]
 ·rw [if_neg h]; simp [h]
theorem bcutR_t {l:List UInt8} {c:UInt8} (h:(Lib.cut l [c]).2.2=true):bcutR l c=.tup [.sl 1 (Bs (Lib.cut l [c]).1),.sl 1 (Bs (Lib.cut l [c]).2.1),.bool true]:=if_pos (by rw [cut_ix]; exact h)
theorem bcutR_f {l:List UInt8} {c:UInt8} (h:(Lib.cut l [c]).2.2=false):bcutR l c=.tup [.sl 1 (Bs l),.con (.slice none 0 0),.bool false]:=if_neg (by rw [cut_ix,h]; simp)
set_option maxRecDepth 8000 in
theorem bcut_ok:FnOk Tryd.prog 28 bcutS:=by
 refine fn_slim2 Tryd.func28 s_bcut (Φ:=phiL [(50,[],bidxS)]) (phi_cons bidx_ok (by kernel_rfl) phi_nil) ?_
 intro xs hp r hs hp'
 unfold bcutS at hs
 split at hs
 ·rename_i ps v e rv c
  injection hs with hs; subst hs
  obtain ⟨h1,h2,h3⟩:=hp'
  generalize unB ps=l at *
  subst h1 h2
  refine ⟨len_le (by kernel_rfl),?_⟩
  by_cases h0:0≤Lib.index l [c.toNat.toUInt8]
  ·have c1:decide (0≤Lib.index l [c.toNat.toUInt8])=true:=decide_eq_true h0
   have hr:=Lib.index_room l [c.toNat.toUInt8] h0
   simp only [List.length_singleton] at hr
   obtain ⟨i,hi⟩:=Int.eq_ofNat_of_zero_le h0
   have hcut:Lib.cut l [c.toNat.toUInt8]=(l.take i,l.drop (i+1),true):=by unfold Lib.cut; rw [if_pos h0,hi]; rfl
   have hR:bcutR l c.toNat.toUInt8=.tup [.sl 1 (Bs (l.take i)),.sl 1 (Bs (l.drop (i+1))),.bool true]:=by rw [bcutR_t (by rw [hcut]),hcut]
   rw [hi] at hr c1
   have e1:((i:Int)+1).toNat=i+1:=by omega
   have e2:(Bs l).take l.length=Bs l:=List.take_of_length_le (by rw [Bs_length]; omega)
   have e3:(Bs l).take i=Bs (l.take i):=by simp [Bs]
   have e4:(Bs l).drop (i+1)=Bs (l.drop (i+1)):=by simp [Bs]
   simp only [c_bcut,r_bcut,bidxS,unB_Bs,hi,c1,e1,e2,e3,e4,hR,Int.toNat_natCast,Bs_len,go_sem,reduceDiv,reduceMod,↓reduceIte,reduceEqDiff,Nat.reduceBEq,reduceSub,Nat.reduceLT,reduceAdd,reduceLeDiff,reduceCtorEq,Int.reduceEq,Int.reduceNe,Int.reduceLT,Int.reduceLE,Int.reduceToNat]
   refine ⟨⟨by omega,by omega⟩,by (first | omega | (simp only [lenOk,bytesOk,inI,IntKind.bits,List.length_append,Bs_len,List.length_cons,List.length_nil,List.length_map,List.length_take,List.length_drop,List.length_replicate]; omega)),?_⟩
   (repeat' apply And.intro) <;> first | omega | trivial
  ·have c1:decide (0≤Lib.index l [c.toNat.toUInt8])=false:=decide_eq_false h0
   have hR:bcutR l c.toNat.toUInt8=.tup [.sl 1 (Bs l),.con (.slice none 0 0),.bool false]:=if_neg h0
   simp only [c_bcut,r_bcut,bidxS,unB_Bs,c1,hR,Int.toNat_natCast,Bs_len,go_sem,reduceDiv,reduceMod,↓reduceIte,reduceEqDiff,Nat.reduceBEq,reduceSub,Nat.reduceLT,reduceAdd,reduceLeDiff,reduceCtorEq,Int.reduceEq,Int.reduceNe,Int.reduceLT,Int.reduceLE,Int.reduceToNat]
 ·cases hs
open Go.Lib (cut)
noncomputable def oopenS (td:Td):Spec:=fun xs hp=>match xs,hp with
 | [.sl k ps],[]=>match objE td (unB ps) with
  | .ok (kd,body)=>some ⟨.tup [.int .i64 kd,.sl 1 (Bs body),.int .i64 0],[],inpOk k ps⟩
  | .error e=>some ⟨.tup [.int .i64 0,.con (.slice none 0 0),.int .i64 (e:Int)],[],inpOk k ps∧e≠9∧e≠0⟩
 | _,_=>none
theorem dec_g3 {a b:Nat} (h:(!decide ((a:Int)=(b:Int)))=false):a=b:=by
 have h' : (a:Int)=(b:Int):=by simpa using h
 omega
theorem cut_len {s p a b:List UInt8} {f:Bool} (h:cut s p=(a,b,f)):a.length≤s.length∧b.length≤s.length:=by
 cases f with
 | false =>
  have:=cut_f (s:=s) (p:=p) (by rw [h])
  rw [h] at this
  obtain ⟨rfl,rfl⟩:=this
  exact ⟨Nat.le_refl _,Nat.zero_le _⟩
 | true =>
  have:=cut_t (s:=s) (p:=p) (by rw [h])
  rw [h] at this
  simp only at this
  rw [this,List.length_append,List.length_append]
  omega
set_option maxRecDepth 8000 in
theorem oopen_ok {td:Td} (hTd:TdOk td):FnOk Tryd.prog 14 (oopenS td):=by
 refine fn_slim2 Tryd.func14 s_oopen (Φ:=(phiL [(27,[],zopenS td),(28,[false,true],bcutS),(29,[],fdecS),(30,[],kindS)])) (phi_cons (zopen_ok hTd) (by kernel_rfl) (phi_cons bcut_ok (by kernel_rfl) (phi_cons fdec_ok (by kernel_rfl) (phi_cons okind_ok (by kernel_rfl) phi_nil)))) ?_
 intro xs hp r hs hp'
 unfold oopenS at hs
 split at hs
 ·rename_i k ps
  have hP:inpOk k ps∧∀ e,objE td (unB ps)=.error e→e≠9∧e≠0:=by
   split at hs
   ·rename_i kd body hz
    injection hs with hs; subst hs
    exact ⟨hp',fun e h=>by rw [hz] at h; cases h⟩
   ·rename_i e hz
    injection hs with hs; subst hs
    exact ⟨hp'.1,fun e' h=>by rw [hz] at h; injection h with h; subst h; exact hp'.2⟩
  obtain ⟨h1,h9⟩:=hP
  have hL:=h1.2.1
  have hbs:=h1.1
  generalize unB ps=b at *
  subst hbs
  refine ⟨len_le (by kernel_rfl),?_⟩
  unfold objE at hs h9
  cases hz:zopenE td b 16777236 with
  | error e =>
   rw [hz] at hs h9
   simp only at hs h9
   injection hs with hs; subst hs
   obtain ⟨e9,e0⟩:=h9 e rfl
   have c1:decide ((e:Int)=0)=false:=decide_eq_false (by omega)
   simp only [c_oopen,r_oopen,zopenS,hz,c1,unB_Bs,Bs_len,Int.reduceToNat,go_sem,reduceDiv,reduceMod,↓reduceIte,reduceEqDiff,Nat.reduceBEq,reduceSub,Nat.reduceLT,reduceAdd,reduceLeDiff,reduceCtorEq,Int.reduceEq,Int.reduceNe,Int.reduceLT,Int.reduceLE,Int.reduceToNat]
   exact ⟨h1,e9,e0⟩
  | ok w =>
   obtain ⟨x,n⟩:=w
   rw [hz] at hs h9
   simp only at hs h9
   obtain ⟨x1,x2⟩:=zopen_pos hTd hz
   have t0:Nat.toUInt8 0=0:=rfl
   have t32:Nat.toUInt8 32=32:=rfl
   have u0:unB []=[]:=rfl
   have dE:=decB_nil
   have dEf:¬ (false=true):=by decide
   cases hc:(cut x [0]).2.2 with
   | false =>
    have hR:=bcutR_f hc
    have hX:objX (decide (b.length≤n)) x=.error 4:=by unfold objX; rw [if_pos (.inr (.inl hc))]
    rw [hX] at hs
    injection hs with hs; subst hs
    cases hd2:(cut x [32]).2.2 with
    | false =>
     have hR2:=bcutR_f hd2
     simp only [c_oopen,r_oopen,zopenS,bcutS,fdecS,kindS,hz,t0,t32,hR,hR2,u0,dE,dEf,if_false,unB_Bs,Bs_len,Int.reduceToNat,go_sem,reduceDiv,reduceMod,↓reduceIte,reduceEqDiff,Nat.reduceBEq,reduceSub,Nat.reduceLT,reduceAdd,reduceLeDiff,reduceCtorEq,Int.reduceEq,Int.reduceNe,Int.reduceLT,Int.reduceLE,Int.reduceToNat]
     refine ⟨h1,?_⟩
     (repeat' apply And.intro) <;> first | omega | trivial | (first | omega | (simp only [lenOk,bytesOk,inI,IntKind.bits,List.length_append,Bs_len,List.length_cons,List.length_nil,List.length_map,List.length_take,List.length_drop,List.length_replicate]; omega))
    | true =>
     have hR2:=bcutR_t hd2
     generalize hcd:cut x [32]=cd at *
     obtain ⟨wd,sz,f⟩:=cd
     simp only at hd2 hR2
     subst hd2
     obtain ⟨l1,l2⟩:=cut_len hcd
     cases hD:decB sz with
     | false =>
      have hDf:¬ (false=true):=by decide
      simp only [c_oopen,r_oopen,zopenS,bcutS,fdecS,kindS,hz,t0,t32,hR,hR2,hD,hDf,if_false,unB_Bs,Bs_len,Int.reduceToNat,go_sem,reduceDiv,reduceMod,↓reduceIte,reduceEqDiff,Nat.reduceBEq,reduceSub,Nat.reduceLT,reduceAdd,reduceLeDiff,reduceCtorEq,Int.reduceEq,Int.reduceNe,Int.reduceLT,Int.reduceLE,Int.reduceToNat]
      refine ⟨h1,?_⟩
      (repeat' apply And.intro) <;> first | omega | trivial | (first | omega | (simp only [lenOk,bytesOk,inI,IntKind.bits,List.length_append,Bs_len,List.length_cons,List.length_nil,List.length_map,List.length_take,List.length_drop,List.length_replicate]; omega))
     | true =>
      simp only [c_oopen,r_oopen,zopenS,bcutS,fdecS,kindS,hz,t0,t32,hR,hR2,hD,if_true,unB_Bs,Bs_len,Int.reduceToNat,go_sem,reduceDiv,reduceMod,↓reduceIte,reduceEqDiff,Nat.reduceBEq,reduceSub,Nat.reduceLT,reduceAdd,reduceLeDiff,reduceCtorEq,Int.reduceEq,Int.reduceNe,Int.reduceLT,Int.reduceLE,Int.reduceToNat]
      refine ⟨h1,?_⟩
      (repeat' apply And.intro) <;> first | omega | trivial | (first | omega | (simp only [lenOk,bytesOk,inI,IntKind.bits,List.length_append,Bs_len,List.length_cons,List.length_nil,List.length_map,List.length_take,List.length_drop,List.length_replicate]; omega))
   | true =>
    have hR:=bcutR_t hc
    generalize hcc:cut x [0]=cc at *
    obtain ⟨hd,body,f⟩:=cc
    simp only at hc hR
    subst hc
    obtain ⟨l3,l4⟩:=cut_len hcc
    cases hd2:(cut hd [32]).2.2 with
    | false =>
     have hR2:=bcutR_f hd2
     have hX:objX (decide (b.length≤n)) x=.error 4:=by unfold objX; rw [hcc,if_pos (.inr (.inr (.inl hd2)))]
     rw [hX] at hs
     injection hs with hs; subst hs
     simp only [c_oopen,r_oopen,zopenS,bcutS,fdecS,kindS,hz,t0,t32,hR,hR2,u0,dE,dEf,if_false,unB_Bs,Bs_len,Int.reduceToNat,go_sem,reduceDiv,reduceMod,↓reduceIte,reduceEqDiff,Nat.reduceBEq,reduceSub,Nat.reduceLT,reduceAdd,reduceLeDiff,reduceCtorEq,Int.reduceEq,Int.reduceNe,Int.reduceLT,Int.reduceLE,Int.reduceToNat]
     refine ⟨h1,?_⟩
     (repeat' apply And.intro) <;> first | omega | trivial | (first | omega | (simp only [lenOk,bytesOk,inI,IntKind.bits,List.length_append,Bs_len,List.length_cons,List.length_nil,List.length_map,List.length_take,List.length_drop,List.length_replicate]; omega))
    | true =>
     have hR2:=bcutR_t hd2
     generalize hcd:cut hd [32]=cd at *
     obtain ⟨wd,sz,f⟩:=cd
     simp only at hd2 hR2
     subst hd2
     obtain ⟨l1,l2⟩:=cut_len hcd
     have hX:objX (decide (b.length≤n)) x=if b.length≤n∧kindN wd≠0∧decB sz=true∧decN sz=body.length then (if 16777216<body.length then .error 2 else .ok (kindN wd,body)) else .error 4:=by
      unfold objX
      rw [hcc]
      simp only
      rw [hcd]
      simp only
      by_cases h1:b.length≤n <;> by_cases h2:kindN wd=0 <;> cases h3:decB sz <;> by_cases h4:decN sz=body.length <;> simp [h1,h2,h4]
     cases hD:decB sz with
     | false =>
      have hDf:¬ (false=true):=by decide
      rw [hD,if_neg (fun h=>by cases h.2.2.1)] at hX
      rw [hX] at hs
      injection hs with hs; subst hs
      simp only [c_oopen,r_oopen,zopenS,bcutS,fdecS,kindS,hz,t0,t32,hR,hR2,hD,hDf,if_false,unB_Bs,Bs_len,Int.reduceToNat,go_sem,reduceDiv,reduceMod,↓reduceIte,reduceEqDiff,Nat.reduceBEq,reduceSub,Nat.reduceLT,reduceAdd,reduceLeDiff,reduceCtorEq,Int.reduceEq,Int.reduceNe,Int.reduceLT,Int.reduceLE,Int.reduceToNat]
      refine ⟨h1,?_⟩
      (repeat' apply And.intro) <;> first | omega | trivial | (first | omega | (simp only [lenOk,bytesOk,inI,IntKind.bits,List.length_append,Bs_len,List.length_cons,List.length_nil,List.length_map,List.length_take,List.length_drop,List.length_replicate]; omega))
     | true =>
      simp only [c_oopen,r_oopen,zopenS,bcutS,fdecS,kindS,hz,t0,t32,hR,hR2,hD,if_true,unB_Bs,Bs_len,Int.reduceToNat,go_sem,reduceDiv,reduceMod,↓reduceIte,reduceEqDiff,Nat.reduceBEq,reduceSub,Nat.reduceLT,reduceAdd,reduceLeDiff,reduceCtorEq,Int.reduceEq,Int.reduceNe,Int.reduceLT,Int.reduceLE,Int.reduceToNat]
      refine ⟨h1,by omega,by omega,by omega,fun g1=>⟨fun g2=>⟨fun g3=>?_,fun g3=>⟨fun g4=>?_,fun g4=>?_⟩⟩,fun g2=>?_⟩,fun g1=>?_⟩
      ·rw [hX,if_neg (fun h=>by simp [h.2.2.2] at g3)] at hs
       injection hs with hs; subst hs; exact ⟨rfl,rfl⟩
      ·have g1:=of_decide_eq_false g1
       have g2:=of_decide_eq_false g2
       have g4:=of_decide_eq_true g4
       rw [hX,if_pos ⟨by omega,g2,hD,dec_g3 g3⟩,if_pos (by omega)] at hs
       injection hs with hs; subst hs; exact ⟨rfl,rfl⟩
      ·have g1:=of_decide_eq_false g1
       have g2:=of_decide_eq_false g2
       have g4:=of_decide_eq_false g4
       rw [hX,if_pos ⟨by omega,g2,hD,dec_g3 g3⟩,if_neg (by omega)] at hs
       injection hs with hs; subst hs; exact ⟨rfl,rfl⟩
      ·have g2:=of_decide_eq_true g2
       rw [hX,if_neg (fun h=>h.2.1 g2)] at hs
       injection hs with hs; subst hs; exact ⟨rfl,rfl⟩
      ·have g1:=of_decide_eq_true g1
       rw [hX,if_neg (fun h=>by omega)] at hs
       injection hs with hs; subst hs; exact ⟨rfl,rfl⟩
 ·cases hs
open Go.Lib (itoa)
def oloR (k:Int) (l:List UInt8) (pr:Prop):Option Ret :=
 if wordL k=[] then some ⟨.tup [.con (.slice none 0 0),.int .i64 1],[],pr⟩
 else if 16777216<l.length then some ⟨.tup [.con (.slice none 0 0),.int .i64 2],[],pr⟩
 else some ⟨.tup [.own 0 2,.int .i64 0],[.row 5 1 2 (Bs (looseL k l))],pr⟩
def olo0S:Spec:=fun xs hp=>match xs,hp with
 | [.int .i64 k,.sl 1 bs],[]=>oloR k (unB bs) (bs=Bs (unB bs)∧(unB bs).length≤1000000000)
 | _,_=>none
theorem flat_Bz (l:List UInt8):∀ x,x∈Bs l→flatB 4 x=true:=by
 intro x hx
 obtain ⟨u,_,rfl⟩:=List.mem_map.1 hx
 rfl
theorem front_small {k:Int} {n:Nat} (h:n≤16777216):(frontL k n).length≤20:=by
 have h1:=wordL_len k
 have h2:(itoa (n:Int)).length≤8:=by rw [itoa_nat]; exact decD_pow 7 n (by omega)
 unfold frontL
 simp only [List.length_append,List.length_cons,List.length_nil]
 omega
set_option maxRecDepth 8000 in
theorem olo0_ok:FnOk Tryd.prog 11 olo0S:=by
 refine fn_slim2 Tryd.func11 s_oloose (Φ:=phiL [(22,[],frontS),(15,[],zwrapS)]) (phi_cons front_ok (by kernel_rfl) (phi_cons zwrap_ok (by kernel_rfl) phi_nil)) ?_
 intro xs hp r hs hp'
 unfold olo0S at hs
 split at hs
 ·rename_i k bs
  refine ⟨len_le (by kernel_rfl),?_⟩
  have hP:bs=Bs (unB bs)∧(unB bs).length≤1000000000:=by
   unfold oloR at hs
   split at hs
   ·injection hs with hs; subst hs; exact hp'
   ·split at hs <;> (injection hs with hs; subst hs; exact hp')
  obtain ⟨h1,h2⟩:=hP
  generalize unB bs=l at *
  subst h1
  unfold oloR at hs
  by_cases hw:wordL k=[]
  ·rw [if_pos hw] at hs
   injection hs with hs; subst hs
   simp only [c_oloose,r_oloose,frontS,frontR_w _ _ hw,unB_Bs,Bs_len,go_sem,reduceDiv,reduceMod,↓reduceIte,reduceEqDiff,Nat.reduceBEq,reduceSub,Nat.reduceLT,reduceAdd,reduceLeDiff,reduceCtorEq,Int.reduceEq,Int.reduceNe,Int.reduceLT,Int.reduceLE,Int.reduceToNat]
   omega
  ·rw [if_neg hw] at hs
   by_cases hl:16777216<l.length
   ·rw [if_pos hl] at hs
    injection hs with hs; subst hs
    simp only [c_oloose,r_oloose,frontS,frontR_l _ hw hl,unB_Bs,Bs_len,go_sem,reduceDiv,reduceMod,↓reduceIte,reduceEqDiff,Nat.reduceBEq,reduceSub,Nat.reduceLT,reduceAdd,reduceLeDiff,reduceCtorEq,Int.reduceEq,Int.reduceNe,Int.reduceLT,Int.reduceLE,Int.reduceToNat]
    omega
   ·rw [if_neg hl] at hs
    injection hs with hs; subst hs
    have hf:=front_small (k:=k) (n:=l.length) (by omega)
    simp only [c_oloose,r_oloose,frontS,frontR_o _ hw hl,zwrapS,unB_Bs,Bs_len,← Bs_append,go_sem,reduceDiv,reduceMod,↓reduceIte,reduceEqDiff,Nat.reduceBEq,reduceSub,Nat.reduceLT,reduceAdd,reduceLeDiff,reduceCtorEq,Int.reduceEq,Int.reduceNe,Int.reduceLT,Int.reduceLE,Int.reduceToNat]
    rw [List.length_append]
    refine ⟨by omega,⟨by simp only [lenOk]; omega,by simp only [bytesOk]; omega⟩,⟨⟨by rw [unB_Bs],rfl,by rw [unB_Bs,List.length_append]; omega⟩,fun x hx=>flat_Bz _ x hx⟩,?_⟩
    rfl
 ·cases hs
def olofR (k:Int) (l:List UInt8) (pr:Prop):Option Ret :=
 if wordL k=[] then some ⟨.tup [.sl 1 [],.int .i64 1],[],pr⟩
 else if 16777216<l.length then some ⟨.tup [.sl 1 [],.int .i64 2],[],pr⟩
 else some ⟨.tup [.sl 1 (Bs (looseL k l)),.int .i64 0],[],pr⟩
def oloS:Spec:=fun xs hp=>match xs,hp with
 | [.int .i64 k,.sl 1 bs],[]=>olofR k (unB bs) (bs=Bs (unB bs)∧(unB bs).length≤1000000000)
 | _,_=>none
theorem olo_ok:FnOk Tryd.prog 11 oloS:=olo0_ok.freezeD fun xs hp r' hs hp' => by
 unfold oloS at hs
 split at hs
 ·rename_i k bs
  unfold olofR at hs
  refine ⟨rfl,?_⟩
  split at hs
  ·rename_i hw
   injection hs with hs; subst hs
   exact ⟨_,if_pos hw,hp',rfl,by simp [fzV,fzD],rfl,rfl⟩
  ·rename_i hw
   split at hs
   ·rename_i hl
    injection hs with hs; subst hs
    exact ⟨_,(if_neg hw).trans (if_pos hl),hp',rfl,by simp [fzV,fzD],rfl,rfl⟩
   ·rename_i hl
    injection hs with hs; subst hs
    exact ⟨_,(if_neg hw).trans (if_neg hl),hp',rfl,by simp [fzV,fzD],rfl,rfl⟩
 ·cases hs
end Go.Proofs.YtakolikdebfkeaaDoor
set_option maxRecDepth 100000
namespace Go.Proofs.YtakolikdebfkeaaDoor
open Go.RowKit
def c_lloose:ACode:=(.seq (.reg none [oS 6 (.mv (.c (.bool false)))]) (.seq (.reg none [oS 16 (.mv (.t 1)),oS 17 (.call 10 [(.t 16)]),oS 1 (.mv (.t 17))]) (.seq (.reg none [oS 18 (.mv (.t 1)),oS 19 (.toStr (.t 18)),oS 7 (.mv (.t 19))]) (.seq (.reg none [oS 21 (.mv (.t 0)),oS 22 (.mv (.t 1)),oS 23 (.call 11 [(.t 21),(.t 22)]),oS 20 (.mv (.t 23)),oS 24 (.ext (.t 20) 0),oS 25 (.ext (.t 20) 1),oS 8 (.mv (.t 24)),oS 9 (.mv (.t 25))]) (.seq (.seq (.reg none [oS 26 (.mv (.t 0)),oS 27 (.call 12 [(.t 26)]),oS 28 (.bin .eql (.t 27) (.c (.str [])))]) (.cond (.t 28) (.seq (.reg none [oS 29 (.call 13 []),oS 30 (.mv (.t 29)),oG 31 (.mv (.t 9)) 30,oG 32 (.bin .eql (.t 31) (.c (.int .i64 1))) 30,oS 33 (.pick (.t 30) (.t 32) (.c (.bool false))),oS 34 (.mv (.t 33)),oG 35 (.mv (.t 8)) 34,oG 36 (.len none false (.t 35)) 34,oG 37 (.bin .eql (.t 36) (.c (.int .i64 0))) 34,oS 38 (.pick (.t 34) (.t 37) (.c (.bool false))),oS 6 (.mv (.t 38))]) .ret) .skip)) (.seq (.reg none [oS 40 (.mv (.t 8)),oS 41 (.call 14 [(.t 40)]),oS 39 (.mv (.t 41)),oS 42 (.ext (.t 39) 0),oS 43 (.ext (.t 39) 1),oS 44 (.ext (.t 39) 2),oS 10 (.mv (.t 42)),oS 11 (.mv (.t 43)),oS 12 (.mv (.t 44))]) (.seq (.reg none [oS 46 (.buildSl 5 1 []),oS 47 (.mv (.t 8)),oS 48 (.app 5 1 1 (.t 46) (.t 47)),oS 49 (.mv (.t 2)),oS 50 (.buildSl 5 1 [(.t 49)]),oS 51 (.app 5 1 1 (.t 48) (.t 50)),oS 52 (.call 14 [(.t 51)]),oS 45 (.mv (.t 52)),oS 53 (.ext (.t 45) 0),oS 54 (.ext (.t 45) 1),oS 55 (.ext (.t 45) 2),oS 13 (.mv (.t 53)),oS 14 (.mv (.t 54)),oS 15 (.mv (.t 55))]) (.seq (.reg (some [(0,true),(1,true),(2,true),(3,true),(4,true),(5,true),(6,false),(7,false),(8,false),(9,false),(10,false),(11,false),(12,false),(13,true),(14,true),(15,true),(16,true),(17,true),(18,true),(19,true),(20,false),(21,false),(22,true),(23,true),(24,true),(25,false),(26,false),(27,false),(28,true),(29,true),(30,true),(31,false),(32,false),(33,false),(34,true),(35,true),(36,true),(37,true),(38,true),(39,true),(40,true)]) [oS 56 (.call 13 []),oS 57 (.mv (.t 56)),oG 58 (.mv (.t 9)) 57,oG 59 (.bin .eql (.t 58) (.c (.int .i64 0))) 57,oS 60 (.pick (.t 57) (.t 59) (.c (.bool false))),oS 61 (.mv (.t 60)),oG 62 (.mv (.t 8)) 61,oG 63 (.toStr (.t 62)) 61,oG 64 (.mv (.t 0)) 61,oG 65 (.mv (.t 1)) 61,oG 66 (.call 16 [(.t 64),(.t 65)]) 61,oG 67 (.call 15 [(.t 66)]) 61,oG 68 (.toStr (.t 67)) 61,oG 69 (.bin .eql (.t 63) (.t 68)) 61,oS 70 (.pick (.t 61) (.t 69) (.c (.bool false))),oS 71 (.mv (.t 70)),oG 72 (.mv (.t 12)) 71,oG 73 (.bin .eql (.t 72) (.c (.int .i64 0))) 71,oS 74 (.pick (.t 71) (.t 73) (.c (.bool false))),oS 75 (.mv (.t 74)),oG 76 (.mv (.t 10)) 75,oG 77 (.mv (.t 0)) 75,oG 78 (.bin .eql (.t 76) (.t 77)) 75,oS 79 (.pick (.t 75) (.t 78) (.c (.bool false))),oS 80 (.mv (.t 79)),oG 81 (.mv (.t 11)) 80,oG 82 (.toStr (.t 81)) 80,oG 83 (.mv (.t 7)) 80,oG 84 (.bin .eql (.t 82) (.t 83)) 80,oS 85 (.pick (.t 80) (.t 84) (.c (.bool false))),oS 86 (.mv (.t 85)),oG 87 (.mv (.t 1)) 86,oG 88 (.toStr (.t 87)) 86,oG 89 (.mv (.t 7)) 86,oG 90 (.bin .eql (.t 88) (.t 89)) 86,oS 91 (.pick (.t 86) (.t 90) (.c (.bool false))),oS 92 (.mv (.t 91)),oG 93 (.mv (.t 15)) 92,oG 94 (.bin .eql (.t 93) (.c (.int .i64 4))) 92,oS 95 (.pick (.t 92) (.t 94) (.c (.bool false))),oS 6 (.mv (.t 95))]) .ret))))))))
def r_lloose:List ARes:=[(.t 6)]
theorem s_lloose:slimF Tryd.prog Tryd.f4=some (c_lloose,r_lloose):=by kernel_rfl
def c_lcuts:ACode:=(.seq (.reg none [oS 6 (.mv (.c (.bool false)))]) (.seq (.reg none [oS 12 (.mv (.t 0)),oS 13 (.toInt .u64 (.t 12)),oS 14 (.bin .rem (.t 13) (.c (.int .u64 4))),oS 15 (.toInt .i64 (.t 14)),oS 16 (.bin .add (.c (.int .i64 1)) (.t 15)),oS 0 (.mv (.t 16))]) (.seq (.reg none [oS 18 (.mv (.t 0)),oS 19 (.mv (.t 1)),oS 20 (.call 10 [(.t 19)]),oS 21 (.call 11 [(.t 18),(.t 20)]),oS 17 (.mv (.t 21)),oS 22 (.ext (.t 17) 0),oS 23 (.ext (.t 17) 1),oS 7 (.mv (.t 22)),oS 8 (.mv (.t 23))]) (.seq (.seq (.reg none [oS 24 (.call 13 []),oS 25 (.un .not (.t 24)),oS 26 (.mv (.t 25)),oH 27 (.mv (.t 8)) 26,oH 28 (.bin .neq (.t 27) (.c (.int .i64 0))) 26,oS 29 (.pick (.t 26) (.c (.bool true)) (.t 28)),oS 30 (.mv (.t 29)),oH 31 (.mv (.t 7)) 30,oH 32 (.len none false (.t 31)) 30,oH 33 (.bin .eql (.t 32) (.c (.int .i64 0))) 30,oS 34 (.pick (.t 30) (.c (.bool true)) (.t 33))]) (.cond (.t 34) (.seq (.reg none [oS 6 (.mv (.c (.bool false)))]) .ret) .skip)) (.seq (.reg none [oS 36 (.mv (.t 7)),oS 37 (.mv (.t 2)),oS 38 (.toInt .u64 (.t 37)),oS 39 (.mv (.t 7)),oS 40 (.len none false (.t 39)),oS 41 (.toInt .u64 (.t 40)),oS 42 (.bin .rem (.t 38) (.t 41)),oS 43 (.toInt .i64 (.t 42)),oS 44 (.sl 1 (.t 36) none (some (.t 43))),oS 45 (.call 14 [(.t 44)]),oS 35 (.mv (.t 45)),oS 46 (.ext (.t 35) 0),oS 47 (.ext (.t 35) 1),oS 48 (.ext (.t 35) 2),oS 9 (.mv (.t 46)),oS 10 (.mv (.t 47)),oS 11 (.mv (.t 48))]) (.seq (.reg none [oS 49 (.mv (.t 9)),oS 50 (.bin .eql (.t 49) (.c (.int .i64 0))),oS 51 (.mv (.t 50)),oG 52 (.mv (.t 10)) 51,oG 53 (.len none false (.t 52)) 51,oG 54 (.bin .eql (.t 53) (.c (.int .i64 0))) 51,oS 55 (.pick (.t 51) (.t 54) (.c (.bool false))),oS 56 (.mv (.t 55)),oG 57 (.mv (.t 11)) 56,oG 58 (.bin .eql (.t 57) (.c (.int .i64 3))) 56,oS 59 (.pick (.t 56) (.t 58) (.c (.bool false))),oS 6 (.mv (.t 59))]) .ret))))))
def r_lcuts:List ARes:=[(.t 6)]
theorem s_lcuts:slimF Tryd.prog Tryd.f5=some (c_lcuts,r_lcuts):=by kernel_rfl
open Go.Lib (itoa)
theorem n4 (m:Int):∃ j:Nat,j<4∧(IntKind.u64.wrap m).tmod 4=(j:Int):=by
 have h0:0≤IntKind.u64.wrap m:=by simp only [IntKind.wrap,IntKind.signed,IntKind.bits]; simp; omega
 refine ⟨((IntKind.u64.wrap m).tmod 4).toNat,?_,?_⟩ <;> rw [Int.tmod_eq_emod_of_nonneg h0] <;> omega
theorem nmod (m:Int) (n:Nat) (h:0<n):∃ j:Nat,j<n∧(IntKind.u64.wrap m).tmod (n:Int)=(j:Int):=by
 have h0:0≤IntKind.u64.wrap m:=by simp only [IntKind.wrap,IntKind.signed,IntKind.bits]; simp; omega
 have h1:=Int.emod_nonneg (IntKind.u64.wrap m) (show (n:Int)≠0 by omega)
 have h2:=Int.emod_lt_of_pos (IntKind.u64.wrap m) (show 0<(n:Int) by omega)
 refine ⟨((IntKind.u64.wrap m).tmod n).toNat,?_,?_⟩ <;> rw [Int.tmod_eq_emod_of_nonneg h0] <;> omega
theorem word_14 {j:Nat} (h:j<4):wordL (1+(j:Int))≠[]:=by
 match j,h with
 | 0,_=>simp [wordL]
 | 1,_=>simp [wordL]
 | 2,_=>simp [wordL]
 | 3,_=>simp [wordL]
theorem olofR_o {k:Int} {l:List UInt8} {pr:Prop} (h1:wordL k≠[]) (h2:l.length≤16777216):olofR k l pr=some ⟨.tup [.sl 1 (Bs (looseL k l)),.int .i64 0],[],pr⟩:=(if_neg h1).trans (if_neg (by omega))
theorem looseL_len (k:Int) (l:List UInt8):6≤(looseL k l).length∧(looseL k l).length≤6 * (l.length+(frontL k l.length).length)+11:=by
 unfold looseL
 rw [zwrap_len]
 have:=dflL_len (frontL k l.length ++ l)
 rw [List.length_append] at this
 omega
theorem tdNo_cut (c x:List UInt8) (p:Nat):cutT (bitsOf c).length p (tdNo (bitsOf c) p) (tdNo (bitsOf c ++ bitsOf x) p):=no_cut c x p 9
theorem takeBs (l:List UInt8) (n:Nat):(Bs l).take n=Bs (l.take n):=by unfold Bs; rw [List.map_take]
theorem inpOk_1 (l:List UInt8) (h:l.length≤1000000000):inpOk 1 (Bs l):=⟨by rw [unB_Bs],by rw [unB_Bs]; exact h,.inl rfl⟩
def lcutsS:Spec:=fun xs hp=>match xs,hp with
 | [.int .i64 _,.sl 1 bs,.int .i64 _],[]=>some ⟨.bool true,[],bs=Bs (unB bs)⟩
 | _,_=>none
set_option maxRecDepth 8000 in
theorem lcuts_ok:FnOk Tryd.prog 5 lcutsS:=by
 refine fn_slim2 Tryd.func5 s_lcuts (Φ:=(phiL [(10,[],few9S),(11,[],oloS),(13,[],known9S),(14,[],oopenS tdNo)])) (phi_cons few9_ok (by kernel_rfl) (phi_cons olo_ok (by kernel_rfl) (phi_cons known9_ok (by kernel_rfl) (phi_cons (oopen_ok tdNo_ok) (by kernel_rfl) phi_nil)))) ?_
 intro xs hp r hs hp'
 unfold lcutsS at hs
 split at hs
 ·rename_i kd bs ct
  injection hs with hs; subst hs
  refine ⟨len_le (by kernel_rfl),?_⟩
  have p1:bs=Bs (unB bs):=hp'
  generalize unB bs=l at *
  subst p1
  obtain ⟨j,hj,e⟩:=n4 kd
  have hw:IntKind.i64.wrap (j:Int)=(j:Int):=wrap_inI ⟨by omega,by omega⟩
  have hl:(l.take 600).length≤600:=by rw [List.length_take]; omega
  have hO:=olofR_o (l:=l.take 600) (pr:=(Bs (l.take 600)=Bs (unB (Bs (l.take 600)))∧(unB (Bs (l.take 600))).length≤1000000000)) (word_14 hj) (by omega)
  have hO2:=olofR_o (l:=l.take 600) (pr:=((l.take 600).length≤1000000000)) (word_14 hj) (by omega)
  obtain ⟨g1,g2⟩:=looseL_len (1+(j:Int)) (l.take 600)
  have hf:=front_small (k:=1+(j:Int)) (n:=(l.take 600).length) (by omega)
  obtain ⟨i,hi,ei⟩:=nmod ct (looseL (1+(j:Int)) (l.take 600)).length (by omega)
  have hu:IntKind.u64.wrap ((looseL (1+(j:Int)) (l.take 600)).length:Int)=((looseL (1+(j:Int)) (l.take 600)).length:Int):=by
   simp only [IntKind.wrap,IntKind.signed,IntKind.bits]; simp; omega
  have hi2:IntKind.i64.wrap (i:Int)=(i:Int):=wrap_inI ⟨by omega,by omega⟩
  have hE:objE tdNo ((looseL (1+(j:Int)) (l.take 600)).take i)=.error 3:=obj_cut (by omega) hf hi tdNo_cut
  have c0:decide (((looseL (1+(j:Int)) (l.take 600)).length:Int)=0)=false:=decide_eq_false (by omega)
  simp only [c_lcuts,r_lcuts,few9S,oloS,known9S,oopenS,takeBs,unB_Bs,e,hw,hO,hO2,ei,hu,hi2,hE,c0,Bs_len,Int.toNat_natCast,go_sem,reduceDiv,reduceMod,↓reduceIte,reduceEqDiff,Nat.reduceBEq,reduceSub,Nat.reduceLT,reduceAdd,reduceLeDiff,reduceCtorEq,Int.reduceEq,Int.reduceNe,Int.reduceLT,Int.reduceLE,Int.reduceToNat]
  exact ⟨by (first | omega | (simp only [lenOk,bytesOk,inI,IntKind.bits,List.length_append,Bs_len,List.length_cons,List.length_nil,List.length_map,List.length_take,List.length_drop,List.length_replicate]; omega)),by (first | omega | (simp only [lenOk,bytesOk,inI,IntKind.bits,List.length_append,Bs_len,List.length_cons,List.length_nil,List.length_map,List.length_take,List.length_drop,List.length_replicate]; omega)),by omega,by omega,by (first | omega | (simp only [lenOk,bytesOk,inI,IntKind.bits,List.length_append,Bs_len,List.length_cons,List.length_nil,List.length_map,List.length_take,List.length_drop,List.length_replicate]; omega)),⟨by omega,by omega⟩,inpOk_1 _ (by rw [List.length_take]; omega),by decide,by decide⟩
 ·cases hs
def llooS:Spec:=fun xs hp=>match xs,hp with
 | [.int .i64 _,.sl 1 bs,.int .u8 c],[]=>some ⟨.bool true,[],bs=Bs (unB bs)∧0≤c∧c<256⟩
 | _,_=>none
theorem olofR_w {k:Int} {l:List UInt8} {pr:Prop} (h1:wordL k=[]):olofR k l pr=some ⟨.tup [.sl 1 [],.int .i64 1],[],pr⟩:=if_pos h1
set_option maxRecDepth 8000 in
theorem lloo_ok:FnOk Tryd.prog 4 llooS:=by
 refine fn_slim2 Tryd.func4 s_lloose (Φ:=(phiL [(10,[],few9S),(11,[],oloS),(13,[],known9S),(14,[],oopenS tdNo),(12,[],wordS),(16,[],wholeS),(15,[],zwrapS)])) (phi_cons few9_ok (by kernel_rfl) (phi_cons olo_ok (by kernel_rfl) (phi_cons known9_ok (by kernel_rfl) (phi_cons (oopen_ok tdNo_ok) (by kernel_rfl) (phi_cons rword_ok (by kernel_rfl) (phi_cons whole_ok (by kernel_rfl) (phi_cons zwrap_ok (by kernel_rfl) phi_nil))))))) ?_
 intro xs hp r hs hp'
 unfold llooS at hs
 split at hs
 ·rename_i k bs c
  injection hs with hs; subst hs
  refine ⟨len_le (by kernel_rfl),?_⟩
  obtain ⟨p1,p2,p3⟩:=hp'
  generalize unB bs=l0 at *
  subst p1
  obtain ⟨m,rfl⟩:=Int.eq_ofNat_of_zero_le p2
  have hc:[AV.int IntKind.u8 (m:Int)]=Bs [UInt8.ofNat m]:=byte_B m (by omega)
  have hl:(l0.take 600).length≤600:=by rw [List.length_take]; omega
  by_cases hw:wordL k=[]
  ·have c0:decide (wordL k=[])=true:=decide_eq_true hw
   simp only [c_lloose,r_lloose,few9S,oloS,wordS,known9S,olofR_w hw,takeBs,unB_Bs,c0,Bs_len,Int.toNat_natCast,go_sem,reduceDiv,reduceMod,↓reduceIte,reduceEqDiff,Nat.reduceBEq,reduceSub,Nat.reduceLT,reduceAdd,reduceLeDiff,reduceCtorEq,Int.reduceEq,Int.reduceNe,Int.reduceLT,Int.reduceLE,Int.reduceToNat]
   omega
  ·have c0:decide (wordL k=[])=false:=decide_eq_false hw
   generalize hL:l0.take 600=l at *
   obtain ⟨g1,g2⟩:=looseL_len k l
   have hf:=front_small (k:=k) (n:=l.length) (by omega)
   have hE1:objE tdNo (looseL k l)=.ok (k,l):=by
    have:=obj_whole (td:=tdNo) hw (body:=l) (by omega) hf []
    rw [List.append_nil] at this
    exact this
   have hE2:objE tdNo (looseL k l ++ [UInt8.ofNat m])=.error 4:=obj_whole (td:=tdNo) hw (body:=l) (by omega) hf [UInt8.ofNat m]
   have hz:zwrap (frontL k l.length ++ l)=looseL k l:=rfl
   simp only [c_lloose,r_lloose,few9S,oloS,wordS,known9S,oopenS,wholeS,zwrapS,olofR_o hw (show l.length≤16777216 by omega),takeBs,hL,unB_Bs,c0,hc,hE1,hE2,hz,← Bs_append,Bs_len,Int.toNat_natCast,go_sem,reduceDiv,reduceMod,↓reduceIte,reduceEqDiff,Nat.reduceBEq,reduceSub,Nat.reduceLT,reduceAdd,reduceLeDiff,reduceCtorEq,Int.reduceEq,Int.reduceNe,Int.reduceLT,Int.reduceLE,Int.reduceToNat]
   have hla:(looseL k l ++ [UInt8.ofNat m]).length=(looseL k l).length+1:=by rw [List.length_append]; rfl
   refine ⟨by omega,inpOk_1 _ (by omega),⟨by simp only [lenOk]; omega,by simp only [bytesOk]; omega⟩,⟨by simp only [lenOk]; omega,by simp only [bytesOk]; omega⟩,⟨inpOk_1 _ (by omega),by decide,by decide⟩,by omega,⟨by rw [unB_Bs],rfl,by rw [unB_Bs,List.length_append]; omega⟩,fun x hx=>flat_Bz _ x hx⟩
 ·cases hs
theorem wf_u8 {z:Int} (h:(Lit.int .u8 z).wf=true):0≤z∧z<256:=by
 simp [Lit.wf,IntKind.min,IntKind.max,IntKind.signed,IntKind.bits] at h
 exact ⟨by omega,by omega⟩
theorem objectLoose_walk {z0:Int} {A1:Option Addr} {n1 c1:Nat} {l1:List UInt8} {z2:Int} (w:World) (q0:(Lit.int .i64 z0).wf=true) (w1:Arg w A1 n1 c1 l1) (q2:(Lit.int .u8 z2).wf=true) (g:GlobOk w (fun b=>b<w.heap.size)) :
  Calls Tryd.prog 4 #[.int .i64 z0,.slice A1 n1 c1,.int .u8 z2] w fun e w' => e=.returned (.bool true)∧Below w.heap.size w w' :=
 lloo_ok.calls_bool (xs:=[.int .i64 z0,.sl 1 (Bs l1),.int .u8 z2]) rfl ⟨by rw [unB_Bs],wf_u8 q2⟩ rfl (args_cons (Vl.int' _ _) (args_cons w1.vl (args_cons (Vl.int' _ _) (args_nil g))))
theorem objectCuts_walk {z0:Int} {A1:Option Addr} {n1 c1:Nat} {l1:List UInt8} {z2:Int} (w:World) (q0:(Lit.int .i64 z0).wf=true) (w1:Arg w A1 n1 c1 l1) (q2:(Lit.int .i64 z2).wf=true) (g:GlobOk w (fun b=>b<w.heap.size)) :
  Calls Tryd.prog 5 #[.int .i64 z0,.slice A1 n1 c1,.int .i64 z2] w fun e w' => e=.returned (.bool true)∧Below w.heap.size w w' :=
 lcuts_ok.calls_bool (xs:=[.int .i64 z0,.sl 1 (Bs l1),.int .i64 z2]) rfl (show Bs l1=Bs (unB (Bs l1)) by rw [unB_Bs]) rfl (args_cons (Vl.int' _ _) (args_cons w1.vl (args_cons (Vl.int' _ _) (args_nil g))))
open Go.ChangeShapes Go.WideShapes Go.ChangeAt Go.RowKit
set_option linter.unusedVariables false
theorem objectLoose_own:ownKnob Tryd.prog.godebug=none:=by kernel_rfl
theorem objectLoose_laid:laidOutB Tryd.prog=true:=by kernel_rfl
theorem objectLoose_door (os:Os) (args:Array Value):laidMetH Tryd.prog Rows.objectLooseRow.laid ((World.doorLaid Tryd.prog 400 os).forCall (fun _ _=>0) ⟨#[],args,[]⟩).memory :=
 laidMetH_of_parts3 (fuel:=8) (laidMet_of_run' 8 (by kernel_rfl) (by kernel_rfl)) (by kernel_rfl) (by kernel_rfl)
set_option maxRecDepth 100000 in
theorem objectLoose_lifted (os:Os) (started:os.Started) (H:Type) (enc:TypeId × Value→H) :
  ReturnsInHanded {} Tryd.checked os 4 .any (fun w args=>(Rows.objectLooseSpec.pre enc Tryd.prog Tryd.f4 Rows.objectLooseRow.domain false w args∧laidMetH Tryd.prog Rows.objectLooseRow.laid w)∧sizedMet enc Tryd.prog Tryd.f4 (OpenSpec.ofChange Rows.objectLooseSpec) false w args)
   (Rows.objectLooseSpec.post enc Tryd.prog Tryd.f4 false true false false):=by
 refine returns_shaped (C:=Tryd.checked) (X:=fun w _=>laidMetH Tryd.prog Rows.objectLooseRow.laid w) (fun _ _ _ hh h=>h.of_heap hh) objectLoose_own started (by kernel_rfl) Tryd.func4
  (ChangeSpec.witness_shaped (enc:=enc) (C:=Tryd.checked) (os:=os) (X:=fun w _=>laidMetH Tryd.prog Rows.objectLooseRow.laid w) false (World.doorLaid Tryd.prog 400 os) #[.int .i64 0,.slice none 0 0,.int .u8 0] 8 rfl (World.shaped_of_RefB (by kernel_rfl) (by kernel_rfl)) (by kernel_rfl) (by kernel_rfl) (by kernel_rfl) (objectLoose_door os _)) ?_
 intro W base args ds gs before hval0 hW hL hsh
 have hval:∀ (j:Nat) t v,Tryd.f4.params[j]?=some t→args[j]?=some v→Value.okWide Tryd.prog W .any base t v:=hval0
 have hW' := hW
 obtain ⟨p,q,hA0,hV,rfl,hfz,hnd⟩:=hW
 have hA:DataW.TrodAll enc Tryd.prog W 0 (fun _=>true) true Tryd.f4.params.toList args.toList ds p:=hA0
 rw [Tryd.params4] at hA hval
 obtain ⟨v0,vs0,d0,ds0,p0,q0,hargs,rfl,rfl,h0,r0⟩:=trodAll_cons hA
 obtain ⟨v1,vs1,d1,ds1,p1,q1,rfl,rfl,rfl,h1,r1⟩:=trodAll_cons r0
 obtain ⟨v2,vs2,d2,ds2,p2,q2,rfl,rfl,rfl,h2,r2⟩:=trodAll_cons r1
 obtain ⟨rfl,rfl,rfl⟩:=trodAll_nil r2
 obtain rfl:args=#[v0,v1,v2]:=by cases args; simp_all
 obtain ⟨rfl,rfl⟩:=trodVars_none hV
 obtain ⟨z0,rfl,rfl,rfl,w0⟩:=open_int Tryd.underlying3 (hval 0 3 v0 rfl rfl) h0
 have g1:=h1
 have lt1:∀ x∈p1,x.block<W.heap.size:=by obtain ⟨m,hm⟩:=g1; exact DataW.trod_lt m _ _ _ hm
 obtain ⟨A1,n1,c1,l1,rfl,w1⟩:=open_bytes Tryd.underlying27 Tryd.underlying5 (by kernel_rfl) (hval 1 27 v1 rfl rfl) h1
 obtain ⟨z2,rfl,rfl,rfl,w2⟩:=open_int Tryd.underlying5 (hval 2 5 v2 rfl rfl) h2
 clear hA0 hval0
 refine (objectLoose_walk W w0 w1 w2 (glob_of_laid hL hsh)).mono fun e W' ⟨he,bel⟩=>?_
 subst he
 exact ⟨_,rfl,_,_,_,[],_,[],hW',trodAll_mk1 (shut_bool Tryd.underlying4 _),(trodAll_cons_mk (shut_int Tryd.underlying3 w0) (trodAll_cons_mk (Below.trod objectLoose_laid (by kernel_rfl) (of_decide_eq_true (by kernel_rfl)) g1 bel lt1) (trodAll_cons_mk (shut_int Tryd.underlying5 w2) trodAll_mk0))),rfl,bel.frame _,fun h=>by cases h⟩
theorem objectLoose_row:Rows.ObjectLooseSaid :=
 OpenClaim.holds_of_wide 4 Tryd.f4 rfl rfl rfl rfl rfl rfl rfl ⟨rfl,rfl,rfl,rfl,rfl⟩ rfl rfl rfl rfl rfl (by kernel_rfl) Tryd.func4 (by kernel_rfl)
  (of_decide_eq_true (by kernel_rfl)) (by unfold Func.isWrapper; first | (rw [if_pos (by decide +kernel)]; kernel_rfl) | (rw [if_neg (by decide +kernel)]; exact ⟨rfl,rfl⟩))
  (fun os started H enc _=>objectLoose_lifted os started H enc)
theorem objectLoose_proved : Rows.ObjectLooseCardSaid :=
 Claim7.holds_tied_plain_at .later [] [.data, .data, .data, .sentinel, .sentinel] true (true, "c98f1dd644cab228620ea4466823a9930046a3a3836f234cbc0aa11453bbb07c") true
  objectLoose_row (fun _ h => by cases h) (by kernel_rfl) (fun _ h => by cases h) objectLoose_row_tie rfl ⟨rfl, rfl⟩ (by kernel_rfl) rfl
  (fun f fn hf hfn => by
   obtain rfl : f = 4 := Option.some.inj ((show Tryd.prog.funcNamed "tramway/tramwaylaw09.ObjectLoose" = some 4 by kernel_rfl).symm.trans hf) |>.symm
   obtain rfl : fn = Tryd.f4 := (Option.some.inj (Tryd.func4.symm.trans hfn)).symm
   exact ⟨by kernel_rfl, fun j t ht => by
    rw [Tryd.params4] at ht
    have hm : t ∈ [3, 27, 5] := by simpa using Array.mem_of_getElem? ht
    have hall : ([3, 27, 5].all fun u => !Tryd.prog.wantsStandIn u) = true := by kernel_rfl
    exact (show Tryd.prog.wantsStandIn t = false by simpa using List.all_eq_true.1 hall t hm)⟩)
  (by kernel_rfl)
end Go.Proofs.YtakolikdebfkeaaDoor
