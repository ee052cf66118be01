import Derived.Test.YtgaehhechonegaaGreatDoorChecked
import Derived.Test.YtgaehhechonegaaGreatDoorWAMS
import Derived.Test.YtgaehhechonegaaGreatDoorWTrnCode
import Derived.Test.YtgaehhechonegaaGreatDoorWShelf
import Derived.Test.YtgaehhechonegaaGreatDoorWLinLaw
import Derived.Test.YtgaehhechonegaaGreatDoorWFZone
import Derived.Test.YtgaehhechonegaaGreatDoorWShaParse
open Nat (reduceDiv reduceMod reduceSub reduceAdd reduceLeDiff reduceEqDiff)
set_option linter.all false
namespace Go.Proofs.YtgaehhechonegaaGreatDoor
open Go.RowKit
def b_sjoin_0:ACode:=(.seq (.reg none [oS 42 (.bin .lss (.t 41) (.t 40))]) (.seq (.cond (.t 42) .skip (.exit 1)) (.seq (.block 2 (.seq (.reg none [oS 43 (.ia 1 (.str []) (.t 39) (.t 41)),oS 44 (.ld (.one (.str [])) (.t 43)),oS 7 (.mv (.t 44))]) (.seq (.seq (.reg none [oS 45 (.mv (.t 7)),oS 46 (.len none true (.t 45)),oS 47 (.mv (.t 5)),oS 48 (.bin .sub (.c (.int .i64 9223372036854775807)) (.t 47)),oS 49 (.bin .gtr (.t 46) (.t 48))]) (.cond (.t 49) (.reg none [oS 50 (.mkif 9 (.c (.str [115,116,114,105,110,103,115,58,32,74,111,105,110,32,111,117,116,112,117,116,32,108,101,110,103,116,104,32,111,118,101,114,102,108,111,119]))),⟨none,.bad,none⟩]) .skip)) (.reg none [oS 51 (.mv (.t 5)),oS 52 (.mv (.t 7)),oS 53 (.len none true (.t 52)),oS 54 (.bin .add (.t 51) (.t 53)),oS 5 (.mv (.t 54))])))) (.reg none [oS 55 (.bin .add (.t 41) (.c (.int .i64 1))),oS 41 (.mv (.t 55))]))))
def b_sjoin_1:ACode:=(.seq (.reg none [oS 66 (.bin .lss (.t 65) (.t 64))]) (.seq (.cond (.t 66) .skip (.exit 3)) (.seq (.block 4 (.seq (.reg none [oS 67 (.ia 1 (.str []) (.t 63) (.t 65)),oS 68 (.ld (.one (.str [])) (.t 67)),oS 10 (.mv (.t 68))]) (.seq (.reg none [oS 69 (.mv (.t 1)),oS 70 (.call 50 [(.t 8),(.t 69)])]) (.reg none [oS 71 (.mv (.t 10)),oS 72 (.call 50 [(.t 8),(.t 71)])])))) (.reg none [oS 73 (.bin .add (.t 65) (.c (.int .i64 1))),oS 65 (.mv (.t 73))]))))
def t_sjoin_0:ACode:=(.seq (.reg none [oS 74 (.call 53 [(.t 8)]),oS 4 (.mv (.t 74))]) .ret)
def t_sjoin_1:ACode:=(.seq (.reg none [oS 8 (.new 97 [(1,(.con (.pointer none))),(1,(.con (.slice none 0 0)))])]) (.seq (.reg none [oS 56 (.mv (.t 5)),oS 57 (.call 91 [(.t 8),(.t 56)])]) (.seq (.reg none [oS 58 (.mv (.t 0)),oS 59 (.ia 1 (.str []) (.t 58) (.c (.int .i64 0))),oS 60 (.ld (.one (.str [])) (.t 59)),oS 61 (.call 50 [(.t 8),(.t 60)])]) (.seq (.seq (.reg none [oS 62 (.mv (.t 0)),oS 63 (.sl 1 (.t 62) (some (.c (.int .i64 1))) none),oS 64 (.len none false (.t 63)),oS 65 (.mv (.c (.int .i64 0)))]) (.block 3 (.loop b_sjoin_1))) t_sjoin_0))))
def c_sjoin:ACode:=(.seq (.reg none [oS 4 (.mv (.c (.str [])))]) (.seq (.seq (.reg none [oS 11 (.mv (.t 0)),oS 12 (.len none false (.t 11))]) (.block 0 (.seq (.reg none [oS 14 (.bin .eql (.t 12) (.c (.int .i64 0))),oS 13 (.mv (.t 14))]) (.cond (.t 13) (.seq (.reg none [oS 4 (.mv (.c (.str [])))]) .ret) (.seq (.reg none [oS 16 (.bin .eql (.t 12) (.c (.int .i64 1))),oS 15 (.mv (.t 16))]) (.cond (.t 15) (.seq (.reg none [oS 17 (.mv (.t 0)),oS 18 (.ia 1 (.str []) (.t 17) (.c (.int .i64 0))),oS 19 (.ld (.one (.str [])) (.t 18)),oS 4 (.mv (.t 19))]) .ret) .skip)))))) (.seq (.reg none [oS 5 (.mv (.c (.int .i64 0)))]) (.seq (.seq (.reg none [oS 20 (.mv (.t 1)),oS 21 (.len none true (.t 20)),oS 22 (.bin .gtr (.t 21) (.c (.int .i64 0)))]) (.cond (.t 22) (.seq (.seq (.reg none [oS 23 (.mv (.t 1)),oS 24 (.len none true (.t 23)),oS 25 (.mv (.t 0)),oS 26 (.len none false (.t 25)),oS 27 (.bin .sub (.t 26) (.c (.int .i64 1))),oS 28 (.bin .quo (.c (.int .i64 9223372036854775807)) (.t 27)),oS 29 (.bin .geq (.t 24) (.t 28))]) (.cond (.t 29) (.reg none [oS 30 (.mkif 9 (.c (.str [115,116,114,105,110,103,115,58,32,74,111,105,110,32,111,117,116,112,117,116,32,108,101,110,103,116,104,32,111,118,101,114,102,108,111,119]))),⟨none,.bad,none⟩]) .skip)) (.reg none [oS 31 (.mv (.t 5)),oS 32 (.mv (.t 1)),oS 33 (.len none true (.t 32)),oS 34 (.mv (.t 0)),oS 35 (.len none false (.t 34)),oS 36 (.bin .sub (.t 35) (.c (.int .i64 1))),oS 37 (.bin .mul (.t 33) (.t 36)),oS 38 (.bin .add (.t 31) (.t 37)),oS 5 (.mv (.t 38))])) .skip)) (.seq (.seq (.reg none [oS 39 (.mv (.t 0)),oS 40 (.len none false (.t 39)),oS 41 (.mv (.c (.int .i64 0)))]) (.block 1 (.loop b_sjoin_0))) t_sjoin_1)))))
def r_sjoin:List ARes:=[(.t 4)]
theorem s_sjoin:slimF Tryz.prog Tryz.f64=some (c_sjoin,r_sjoin):=by kernel_rfl
def c_bwb:ACode:=(.seq (.reg none [oS 4 (.mv (.c (.con .nilIface)))]) (.seq (.reg none [oS 5 (.mv (.t 0)),oS 6 (.call 79 [(.t 5)])]) (.seq (.reg none [oS 7 (.mv (.t 0)),oS 8 (.mv (.t 0)),oS 9 (.nck (.t 8)),oS 10 (.fa 1 (.t 9)),oS 11 (.ld (.one (.con (.slice none 0 0))) (.t 10)),oS 12 (.mv (.t 1)),oS 13 (.buildSl 5 1 [(.t 12)]),oS 14 (.app 5 1 1 (.t 11) (.t 13)),oS 15 (.nck (.t 7)),oS 16 (.fa 1 (.t 15)),oN (.st (.one (.con (.slice none 0 0))) (.t 16) (.t 14))]) (.seq (.reg none [oS 4 (.mv (.c (.con .nilIface)))]) .ret))))
def r_bwb:List ARes:=[(.t 4)]
theorem s_bwb:slimF Tryz.prog Tryz.f80=some (c_bwb,r_bwb):=by kernel_rfl
def b_gkeyed_0:ACode:=(.seq (.reg none [oS 9 (.bin .lss (.t 8) (.t 7))]) (.seq (.cond (.t 9) .skip (.exit 0)) (.seq (.block 1 (.seq (.reg none [oS 10 (.ia 1 (.int .u8 0) (.t 6) (.t 8)),oS 11 (.ld (.one (.int .u8 0)) (.t 10)),oS 4 (.mv (.t 11))]) (.seq (.reg none [oS 12 (.mv (.t 4)),oS 13 (.bin .geq (.t 12) (.c (.int .u8 97))),oS 14 (.mv (.t 13)),oG 15 (.mv (.t 4)) 14,oG 16 (.bin .leq (.t 15) (.c (.int .u8 122))) 14,oS 17 (.pick (.t 14) (.t 16) (.c (.bool false))),oS 18 (.mv (.t 17)),oH 19 (.mv (.t 4)) 18,oH 20 (.bin .geq (.t 19) (.c (.int .u8 65))) 18,oH 21 (.mv (.t 20)) 18,oG 22 (.mv (.t 4)) 21,oG 23 (.bin .leq (.t 22) (.c (.int .u8 90))) 21,oH 24 (.pick (.t 21) (.t 23) (.c (.bool false))) 18,oS 25 (.pick (.t 18) (.c (.bool true)) (.t 24)),oS 26 (.mv (.t 25)),oH 27 (.mv (.t 4)) 26,oH 28 (.bin .geq (.t 27) (.c (.int .u8 48))) 26,oH 29 (.mv (.t 28)) 26,oG 30 (.mv (.t 4)) 29,oG 31 (.bin .leq (.t 30) (.c (.int .u8 57))) 29,oH 32 (.pick (.t 29) (.t 31) (.c (.bool false))) 26,oS 33 (.pick (.t 26) (.c (.bool true)) (.t 32)),oS 34 (.mv (.t 33)),oH 35 (.mv (.t 4)) 34,oH 36 (.bin .eql (.t 35) (.c (.int .u8 45))) 34,oS 37 (.pick (.t 34) (.c (.bool true)) (.t 36)),oS 38 (.mv (.t 37)),oH 39 (.mv (.t 4)) 38,oH 40 (.bin .eql (.t 39) (.c (.int .u8 95))) 38,oS 41 (.pick (.t 38) (.c (.bool true)) (.t 40)),oS 42 (.un .not (.t 41))]) (.cond (.t 42) (.seq (.reg none [oS 2 (.mv (.c (.bool false)))]) .ret) .skip)))) (.reg none [oS 43 (.bin .add (.t 8) (.c (.int .i64 1))),oS 8 (.mv (.t 43))]))))
def t_gkeyed_0:ACode:=(.seq (.reg none [oS 44 (.mv (.t 0)),oS 45 (.bin .neq (.t 44) (.c (.str []))),oS 46 (.mv (.t 45)),oG 47 (.mv (.t 0)) 46,oG 48 (.len none true (.t 47)) 46,oG 49 (.bin .leq (.t 48) (.c (.int .i64 100))) 46,oS 50 (.pick (.t 46) (.t 49) (.c (.bool false))),oS 2 (.mv (.t 50))]) .ret)
def c_gkeyed:ACode:=(.seq (.reg none [oS 2 (.mv (.c (.bool false)))]) (.seq (.seq (.reg none [oS 5 (.mv (.t 0)),oS 6 (.bytes 5 (.t 5)),oS 7 (.len none false (.t 6)),oS 8 (.mv (.c (.int .i64 0)))]) (.block 0 (.loop b_gkeyed_0))) t_gkeyed_0))
def r_gkeyed:List ARes:=[(.t 2)]
theorem s_gkeyed:slimF Tryz.prog Tryz.f87=some (c_gkeyed,r_gkeyed):=by kernel_rfl
def b_gright_0:ACode:=(.seq (.reg none [oS 11 (.bin .lss (.t 10) (.t 9))]) (.seq (.cond (.t 11) .skip (.exit 0)) (.seq (.block 1 (.seq (.reg none [oS 12 (.mv (.t 10)),oS 13 (.ia 2 (.agg [(1,(.str [])),(1,(.str []))]) (.t 8) (.t 10)),oS 14 (.ld (.st 2) (.t 13)),oS 4 (.new 78 [(1,(.str [])),(1,(.str []))]),oS 3 (.mv (.t 12)),oN (.st (.st 2) (.t 4) (.t 14))]) (.seq (.reg (some [(0,true),(1,true),(2,true),(3,true),(4,true),(5,true),(6,true),(7,true),(8,false),(9,false),(10,false),(11,false),(12,false),(13,false),(14,false),(15,false),(16,false),(17,true),(18,true),(19,true)]) [oS 15 (.fa 0 (.t 4)),oS 16 (.ld (.one (.str [])) (.t 15)),oS 17 (.call 87 [(.t 16)]),oS 18 (.un .not (.t 17)),oS 19 (.mv (.t 18)),oH 20 (.mv (.t 3)) 19,oH 21 (.bin .gtr (.t 20) (.c (.int .i64 0))) 19,oH 22 (.mv (.t 21)) 19,oG 23 (.fa 23 (.t 1)) 22,oG 24 (.ld (.one (.con (.slice none 0 0))) (.t 23)) 22,oG 25 (.mv (.t 3)) 22,oG 26 (.bin .sub (.t 25) (.c (.int .i64 1))) 22,oG 27 (.ia 2 (.agg [(1,(.str [])),(1,(.str []))]) (.t 24) (.t 26)) 22,oG 28 (.fa 0 (.t 27)) 22,oG 29 (.ld (.one (.str [])) (.t 28)) 22,oG 30 (.fa 0 (.t 4)) 22,oG 31 (.ld (.one (.str [])) (.t 30)) 22,oG 32 (.bin .geq (.t 29) (.t 31)) 22,oH 33 (.pick (.t 22) (.t 32) (.c (.bool false))) 19,oS 34 (.pick (.t 19) (.c (.bool true)) (.t 33))]) (.cond (.t 34) (.seq (.reg none [oS 2 (.mv (.c (.bool false)))]) .ret) .skip)))) (.reg none [oS 35 (.bin .add (.t 10) (.c (.int .i64 1))),oS 10 (.mv (.t 35))]))))
def b_gright_1:ACode:=(.seq (.reg none [oS 40 (.bin .lss (.t 39) (.t 38))]) (.seq (.cond (.t 40) .skip (.exit 2)) (.seq (.block 3 (.seq (.reg none [oS 41 (.mv (.t 39)),oS 42 (.ia 1 (.str []) (.t 37) (.t 39)),oS 43 (.ld (.one (.str [])) (.t 42)),oS 5 (.mv (.t 41)),oS 6 (.mv (.t 43))]) (.seq (.reg none [oS 44 (.mv (.t 6)),oS 45 (.call 88 [(.t 44)]),oS 46 (.un .not (.t 45)),oS 47 (.mv (.t 46)),oH 48 (.mv (.t 5)) 47,oH 49 (.bin .gtr (.t 48) (.c (.int .i64 0))) 47,oH 50 (.mv (.t 49)) 47,oG 51 (.fa 24 (.t 1)) 50,oG 52 (.ld (.one (.con (.slice none 0 0))) (.t 51)) 50,oG 53 (.mv (.t 5)) 50,oG 54 (.bin .sub (.t 53) (.c (.int .i64 1))) 50,oG 55 (.ia 1 (.str []) (.t 52) (.t 54)) 50,oG 56 (.ld (.one (.str [])) (.t 55)) 50,oG 57 (.mv (.t 6)) 50,oG 58 (.bin .geq (.t 56) (.t 57)) 50,oH 59 (.pick (.t 50) (.t 58) (.c (.bool false))) 47,oS 60 (.pick (.t 47) (.c (.bool true)) (.t 59))]) (.cond (.t 60) (.seq (.reg none [oS 2 (.mv (.c (.bool false)))]) .ret) .skip)))) (.reg none [oS 61 (.bin .add (.t 39) (.c (.int .i64 1))),oS 39 (.mv (.t 61))]))))
def t_gright_0:ACode:=(.seq (.reg none [oS 62 (.fa 20 (.t 1)),oS 63 (.ld (.one (.str [])) (.t 62)),oS 64 (.bin .neq (.t 63) (.c (.str []))),oS 65 (.mv (.t 64)),oG 66 (.fa 20 (.t 1)) 65,oG 67 (.ld (.one (.str [])) (.t 66)) 65,oG 68 (.call 89 [(.t 67),(.c (.str [10]))]) 65,oG 69 (.un .not (.t 68)) 65,oS 70 (.pick (.t 65) (.t 69) (.c (.bool false))),oS 71 (.mv (.t 70)),oG 72 (.fa 21 (.t 1)) 71,oG 73 (.ld (.one (.int .i64 0)) (.t 72)) 71,oG 74 (.bin .geq (.t 73) (.c (.int .i64 0))) 71,oS 75 (.pick (.t 71) (.t 74) (.c (.bool false))),oS 76 (.mv (.t 75)),oG 77 (.fa 21 (.t 1)) 76,oG 78 (.ld (.one (.int .i64 0)) (.t 77)) 76,oG 79 (.bin .lss (.t 78) (.c (.int .i64 4611686018427387904))) 76,oS 80 (.pick (.t 76) (.t 79) (.c (.bool false))),oS 81 (.mv (.t 80)),oG 82 (.fa 22 (.t 1)) 81,oG 83 (.ld (.one (.int .i64 0)) (.t 82)) 81,oG 84 (.bin .geq (.t 83) (.c (.int .i64 (-86399)))) 81,oS 85 (.pick (.t 81) (.t 84) (.c (.bool false))),oS 86 (.mv (.t 85)),oG 87 (.fa 22 (.t 1)) 86,oG 88 (.ld (.one (.int .i64 0)) (.t 87)) 86,oG 89 (.bin .leq (.t 88) (.c (.int .i64 86399))) 86,oS 90 (.pick (.t 86) (.t 89) (.c (.bool false))),oS 2 (.mv (.t 90))]) .ret)
def t_gright_1:ACode:=(.seq (.seq (.reg none [oS 36 (.fa 24 (.t 1)),oS 37 (.ld (.one (.con (.slice none 0 0))) (.t 36)),oS 38 (.len none false (.t 37)),oS 39 (.mv (.c (.int .i64 0)))]) (.block 2 (.loop b_gright_1))) t_gright_0)
def c_gright:ACode:=(.seq (.reg none [oS 1 (.box 40 26 (.t 0)),oS 2 (.mv (.c (.bool false)))]) (.seq (.seq (.reg none [oS 7 (.fa 23 (.t 1)),oS 8 (.ld (.one (.con (.slice none 0 0))) (.t 7)),oS 9 (.len none false (.t 8)),oS 10 (.mv (.c (.int .i64 0)))]) (.block 0 (.loop b_gright_0))) t_gright_1))
def r_gright:List ARes:=[(.t 2)]
theorem s_gright:slimF Tryz.prog Tryz.f61=some (c_gright,r_gright):=by kernel_rfl
def b_gtold_0:ACode:=(.seq (.reg none [oS 10 (.bin .lss (.t 9) (.t 8))]) (.seq (.cond (.t 10) .skip (.exit 0)) (.seq (.block 1 (.seq (.reg none [oS 11 (.ia 1 (.int .u8 0) (.t 7) (.t 9)),oS 12 (.ld (.one (.int .u8 0)) (.t 11)),oS 5 (.mv (.t 12))]) (.seq (.reg none [oS 13 (.mv (.t 5))]) (.block 2 (.seq (.reg none [oS 17 (.bin .eql (.t 13) (.c (.int .u8 92))),oS 16 (.mv (.t 17))]) (.cond (.t 16) (.reg none [oS 18 (.call 50 [(.t 3),(.c (.str [92,92]))])]) (.seq (.reg none [oS 20 (.bin .eql (.t 13) (.c (.int .u8 10))),oS 19 (.mv (.t 20))]) (.cond (.t 19) (.reg none [oS 21 (.call 50 [(.t 3),(.c (.str [92,110]))])]) (.seq (.reg none [oS 23 (.bin .eql (.t 13) (.c (.int .u8 13))),oS 22 (.mv (.t 23))]) (.cond (.t 22) (.reg none [oS 24 (.call 50 [(.t 3),(.c (.str [92,114]))])]) (.seq (.reg none [oS 26 (.bin .eql (.t 13) (.c (.int .u8 0))),oS 25 (.mv (.t 26))]) (.cond (.t 25) (.reg none [oS 27 (.call 50 [(.t 3),(.c (.str [92,48]))])]) (.reg none [oS 14 (.mv (.t 5)),oS 15 (.call 80 [(.t 3),(.t 14)])]))))))))))))) (.reg none [oS 28 (.bin .add (.t 9) (.c (.int .i64 1))),oS 9 (.mv (.t 28))]))))
def t_gtold_0:ACode:=(.seq (.reg none [oS 29 (.call 53 [(.t 3)]),oS 2 (.mv (.t 29))]) .ret)
def c_gtold:ACode:=(.seq (.reg none [oS 2 (.mv (.c (.str [])))]) (.seq (.reg none [oS 3 (.new 97 [(1,(.con (.pointer none))),(1,(.con (.slice none 0 0)))])]) (.seq (.seq (.reg none [oS 6 (.mv (.t 0)),oS 7 (.bytes 5 (.t 6)),oS 8 (.len none false (.t 7)),oS 9 (.mv (.c (.int .i64 0)))]) (.block 0 (.loop b_gtold_0))) t_gtold_0)))
def r_gtold:List ARes:=[(.t 2)]
theorem s_gtold:slimF Tryz.prog Tryz.f63=some (c_gtold,r_gtold):=by kernel_rfl
def b_gprn_0:ACode:=(.seq (.reg none [oS 24 (.bin .lss (.t 23) (.t 22))]) (.seq (.cond (.t 24) .skip (.exit 0)) (.seq (.block 1 (.seq (.reg none [oS 25 (.mv (.t 23)),oS 26 (.ia 2 (.agg [(1,(.str [])),(1,(.str []))]) (.t 21) (.t 23)),oS 27 (.ld (.st 2) (.t 26)),oS 6 (.new 78 [(1,(.str [])),(1,(.str []))]),oS 5 (.mv (.t 25)),oN (.st (.st 2) (.t 6) (.t 27))]) (.seq (.reg none [oS 7 (.mv (.c (.str [0])))]) (.seq (.seq (.reg none [oS 28 (.mv (.t 5)),oS 29 (.bin .eql (.t 28) (.c (.int .i64 0)))]) (.cond (.t 29) (.reg none [oS 7 (.mv (.c (.str [32])))]) .skip)) (.reg (some [(0,false),(1,false),(2,false),(3,false),(4,false),(5,false),(6,false),(7,false),(8,false),(9,false),(10,true),(11,true)]) [oS 30 (.mv (.t 4)),oS 31 (.mv (.t 7)),oS 32 (.fa 0 (.t 6)),oS 33 (.ld (.one (.str [])) (.t 32)),oS 34 (.bin .add (.t 31) (.t 33)),oS 35 (.bin .add (.t 34) (.c (.str [58]))),oS 36 (.fa 1 (.t 6)),oS 37 (.ld (.one (.str [])) (.t 36)),oS 38 (.call 63 [(.t 37)]),oS 39 (.bin .add (.t 35) (.t 38)),oS 40 (.bin .add (.t 30) (.t 39)),oS 4 (.mv (.t 40))]))))) (.reg none [oS 41 (.bin .add (.t 23) (.c (.int .i64 1))),oS 23 (.mv (.t 41))]))))
def t_gprn_0:ACode:=(.seq (.reg (some [(0,false),(1,false),(2,false),(2,false),(2,false),(2,false),(6,false),(2,false),(2,false),(9,true),(10,true)]) [oS 42 (.fa 0 (.t 1)),oS 43 (.ld (.arr 20) (.t 42)),oS 44 (.call 51 [(.t 43)]),oS 45 (.fa 20 (.t 1)),oS 46 (.ld (.one (.str [])) (.t 45)),oS 47 (.mv (.t 4)),oS 48 (.buildSl 9 1 [(.t 44),(.t 46),(.t 47)]),oS 49 (.fa 24 (.t 1)),oS 50 (.ld (.one (.con (.slice none 0 0))) (.t 49)),oS 51 (.app 9 1 16 (.t 48) (.t 50)),oS 8 (.mv (.t 51))]) (.seq (.reg none [oS 52 (.mv (.t 8)),oS 53 (.fa 25 (.t 1)),oS 54 (.ld (.one (.str [])) (.t 53)),oS 55 (.buildSl 9 1 [(.c (.str [])),(.t 54)]),oS 56 (.app 9 1 16 (.t 52) (.t 55)),oS 57 (.call 64 [(.t 56),(.c (.str [10]))]),oS 58 (.bytes 5 (.t 57)),oS 2 (.mv (.t 58)),oS 3 (.mv (.c (.int .i64 0)))]) .ret))
def c_gprn:ACode:=(.seq (.reg none [oS 1 (.box 40 26 (.t 0)),oS 2 (.mv (.c (.con (.slice none 0 0)))),oS 3 (.mv (.c (.int .i64 0)))]) (.seq (.seq (.reg none [oS 9 (.ld (.st 26) (.t 1)),oS 10 (.call 61 [(.t 9)]),oS 11 (.un .not (.t 10))]) (.cond (.t 11) (.seq (.reg none [oS 2 (.mv (.c (.con (.slice none 0 0)))),oS 3 (.mv (.c (.int .i64 4)))]) .ret) .skip)) (.seq (.reg (some [(0,false),(1,false),(2,false),(3,false),(2,false),(2,false),(6,false),(7,true),(8,true)]) [oS 12 (.fa 21 (.t 1)),oS 13 (.ld (.one (.int .i64 0)) (.t 12)),oS 14 (.call 62 [(.t 13)]),oS 15 (.bin .add (.t 14) (.c (.str [32]))),oS 16 (.fa 22 (.t 1)),oS 17 (.ld (.one (.int .i64 0)) (.t 16)),oS 18 (.call 62 [(.t 17)]),oS 19 (.bin .add (.t 15) (.t 18)),oS 4 (.mv (.t 19))]) (.seq (.seq (.reg none [oS 20 (.fa 23 (.t 1)),oS 21 (.ld (.one (.con (.slice none 0 0))) (.t 20)),oS 22 (.len none false (.t 21)),oS 23 (.mv (.c (.int .i64 0)))]) (.block 0 (.loop b_gprn_0))) t_gprn_0))))
def r_gprn:List ARes:=[(.t 2),(.t 3)]
theorem s_gprn:slimF Tryz.prog Tryz.f36=some (c_gprn,r_gprn):=by kernel_rfl
def bwbS:Spec:=fun xs hp=>match xs,hp with
 | [.ref 0 0 0,.int .u8 c],[.cells T [(1,X),(1,.own 1 v)],.row e 1 v' bs]=>if selfX X=true∧v=v' ∧ e=5 then some ⟨.con .nilIface,[.cells T [(1,.ref 0 0 0),(1,.own 1 (v+1))],.row 5 1 (v+1) (bs ++ [.int .u8 c])],T=97∧bytesOk (bs.length+1)⟩ else none
 | _,_=>none
theorem bwb_ok:FnOk Tryz.prog 80 bwbS:=by
 refine fn_slim2 Tryz.func80 s_bwb (Φ:=phiL [(79,[],copyCheckS)]) (phi_cons copyCheckA_ok (by kernel_rfl) phi_nil) ?_
 intro xs hp r hs hp'
 unfold bwbS at hs
 split at hs
 ·rename_i c T X v e v' bs
  split at hs
  ·rename_i hX
   obtain ⟨hX,rfl,rfl⟩:=hX
   injection hs with hs; subst hs
   obtain ⟨rfl,p2⟩:=hp'
   refine ⟨len_le (by kernel_rfl),?_⟩
   unfold bytesOk at p2
   have hlen:(bs ++ [AV.int .u8 c]).length=bs.length+1:=by simp
   rcases selfX_or hX with rfl | rfl
   ·simp only [c_bwb,r_bwb,copyCheckS,hX,go_sem,reduceDiv,reduceMod,↓reduceIte,Nat.reduceBEq,reduceSub,Nat.reduceLT,reduceAdd,reduceCtorEq]
    refine ⟨by rw [hlen]; (first | omega | (simp only [lenOk]; omega)),by rw [hlen]; (first | omega | (simp only [bytesOk]; omega))⟩
   ·simp only [c_bwb,r_bwb,copyCheckS,hX,go_sem,reduceDiv,reduceMod,↓reduceIte,Nat.reduceBEq,reduceSub,Nat.reduceLT,reduceAdd,reduceCtorEq]
    refine ⟨by rw [hlen]; (first | omega | (simp only [lenOk]; omega)),by rw [hlen]; (first | omega | (simp only [bytesOk]; omega))⟩
  ·cases hs
 ·cases hs
def joinW (sep:List UInt8):List (List UInt8)→List UInt8
 | []=>[]
 | x :: xs=>x ++ xs.flatMap (sep ++ ·)
def sumL (xs:List (List UInt8)):Nat:=(xs.map List.length).sum
def joinS:Spec:=fun xs hp=>match xs,hp with
 | [.sl kq ps,.str sep],[]=>some ⟨.str (joinW sep (ps.map unS)),[],ps=(ps.map unS).map AV.str∧(kq=1∨ps=[])∧ps.length≤1000000∧sep.length≤1000000∧sumL (ps.map unS)≤1000000000⟩
 | _,_=>none
theorem sum_take (xs:List (List UInt8)) {i:Nat} (h:i<xs.length):sumL (xs.take (i+1))=sumL (xs.take i)+xs[i].length:=by
 unfold sumL
 rw [List.take_add_one,List.getElem?_eq_getElem h,Option.toList_some,List.map_append,List.sum_append]; simp
theorem sum_take_le (xs:List (List UInt8)) (i:Nat):sumL (xs.take i)≤sumL xs:=by
 conv=>rhs; rw [← List.take_append_drop i xs]
 unfold sumL
 rw [List.map_append,List.sum_append]; omega
theorem flat_sep_len (sep:List UInt8) (xs:List (List UInt8)):(xs.flatMap (sep ++ ·)).length=sep.length * xs.length+sumL xs:=by
 induction xs with
 | nil=>simp [sumL]
 | cons x xs ih =>
  rw [List.flatMap_cons,List.length_append,ih,List.length_append,List.length_cons,Nat.mul_add]
  simp only [sumL,List.map_cons,List.sum_cons]; omega
theorem quo_big {k:Nat} (h0:0<k) (h1:k≤1000000):(9000000000000:Int)≤(9223372036854775807:Int).tdiv (k:Int):=by
 rw [Int.tdiv_eq_ediv_of_nonneg (by decide)]
 exact Int.le_ediv_of_mul_le (by omega) (by omega)
def phiJ:Phi:=phiL [(91,[],growS),(50,[],bwsS),(53,[],bstrS)]
theorem phiJ_ok:PhiOk Tryz.prog phiJ:=phi_cons grow_ok (by kernel_rfl) (phi_cons bws_ok (by kernel_rfl) (phi_cons bstr_ok (by kernel_rfl) phi_nil))
theorem phiJ_1:phiJ 91=some ([],growS):=rfl
theorem phiJ_2:phiJ 50=some ([],bwsS):=rfl
theorem phiJ_3:phiJ 53=some ([],bstrS):=rfl
set_option maxHeartbeats 2000000 in
theorem join_core {sep x:List UInt8} {ys:List (List UInt8)} (n0:Int) (h0:0≤n0) (h1:n0≤1000000000000) (hl:(x :: ys).length≤1000000) (hsp:sep.length≤1000000) (hsm:sumL (x :: ys)≤1000000000) (pr:Prop) (s0:S2)
  (hk:ent [] [0,1,5,39,40,41] [] (toS s0)=some ⟨[(0,.sl 1 ((x :: ys).map AV.str)),(1,.str sep),(5,.int .i64 n0),(39,.sl 1 ((x :: ys).map AV.str)),(40,.int .i64 ((x :: ys).length:Int)),(41,.int .i64 ((0:Nat):Int))],[]⟩) :
  loopQ2 0 (awp2 phiJ 0 b_sjoin_0) (inQ2 1 (thenQ2 (awp2 phiJ 0 t_sjoin_1 (retQ2 r_sjoin 0 ⟨.str (joinW sep (x :: ys)),[],pr⟩)) (retQ2 r_sjoin 0 ⟨.str (joinW sep (x :: ys)),[],pr⟩))) s0:=by
 have hjw:joinW sep (x :: ys)=x ++ ys.flatMap (sep ++ ·):=rfl
 have hsx:sumL (x :: ys)=x.length+sumL ys:=by simp [sumL]
 have hyl:(x :: ys).length=ys.length+1:=rfl
 have hd1:(((x :: ys).map AV.str).take (x :: ys).length).drop 1=ys.map AV.str:=by rw [List.take_of_length_le (by simp)]; rfl
 have hg0:((x :: ys).map AV.str).getD 0 (AV.str [])=AV.str x:=rfl
 have hml:((x :: ys).map AV.str).length=(x :: ys).length:=List.length_map ..
 generalize hzs:x :: ys=zs at *
 refine loop2P [] [0,1,5,39,40,41] [] (fun q:Nat × Int=>⟨[(0,.sl 1 (zs.map AV.str)),(1,.str sep),(5,.int .i64 q.2),(39,.sl 1 (zs.map AV.str)),(40,.int .i64 (zs.length:Int)),(41,.int .i64 (q.1:Int))],[]⟩)
  (fun q=>q.1≤zs.length∧0≤q.2∧q.2≤1000000000000+(sumL (zs.take q.1):Int)) (fun q=>zs.length - q.1) (0,n0) hk ⟨Nat.zero_le _,h0,by simp only [List.take_zero,sumL,List.map_nil,List.sum_nil]; omega⟩ ⟨rfl,by rfl⟩ (fun q hq R hR=>?_)
 obtain ⟨i,n⟩:=q
 simp only at hq hR ⊢
 obtain ⟨i1,i2,i3⟩:=hq
 have hst:=sum_take_le zs i
 by_cases hil:i<zs.length
 ·have c1:decide ((i:Int)<(zs.length:Int))=true:=decide_eq_true (by omega)
  have hget:=getD_map AV.str zs [] (AV.str []) hil
  have hga:zs.getD i []=zs[i]:=by simp [List.getD_eq_getElem?_getD,List.getElem?_eq_getElem hil]
  have hsk:=sum_take zs hil
  have hsl:=sum_take_le zs (i+1)
  have c2:decide ((9223372036854775807:Int) - n<(zs[i].length:Int))=false:=decide_eq_false (by omega)
  simp only [b_sjoin_0,c1,c2,hget,hga,Int.toNat_natCast,hml,go_sem,reduceDiv,reduceMod,↓reduceIte]
  refine ⟨⟨by omega,by omega⟩,⟨by omega,by omega⟩,⟨by omega,by omega⟩,⟨by omega,by omega⟩,hR _ (i+1,n+(zs[i].length:Int)) ⟨hil,by simp only; omega,by simp only; omega⟩ (by simp only; omega) rfl⟩
 ·have c1:decide ((i:Int)<(zs.length:Int))=false:=decide_eq_false (by omega)
  have hX0:selfX (.con (.pointer none))=true:=rfl
  have hX1:selfX (.ref 0 0 0)=true:=rfl
  have hz0:0<zs.length:=by omega
  simp only [b_sjoin_0,t_sjoin_1,c1,phiJ_1,phiJ_2,growS,bwsS,hX0,hX1,hg0,hd1,hml,go_sem,reduceDiv,reduceMod,↓reduceIte,Nat.reduceBEq,reduceSub,Nat.reduceLT,reduceAdd,reduceLeDiff,reduceCtorEq,Int.reduceLE,Int.reduceToNat]
  have hfl:=flat_sep_len sep ys
  have hsy:sep.length * ys.length≤1000000 * 1000000:=Nat.mul_le_mul hsp (by omega)
  refine ⟨⟨by omega,by omega⟩,by omega,by (first | omega | (simp only [bytesOk]; omega)),⟨by omega,by omega⟩,?_⟩
  clear hR R
  refine loop2P [] [1,8,63,64,65] [0,1] (fun j:Nat=>⟨[(1,.str sep),(8,.ref 0 0 0),(63,.sl 1 (ys.map AV.str)),(64,.int .i64 (ys.length:Int)),(65,.int .i64 (j:Int))],[.cells 97 [(1,.ref 0 0 0),(1,.own 1 (1+2 * j))],.row 5 1 (1+2 * j) (Bs (x ++ (ys.take j).flatMap (sep ++ ·)))]⟩)
   (fun j=>j≤ys.length) (fun j=>ys.length - j) 0 ?_ (Nat.zero_le _) ⟨rfl,by rfl⟩ (fun j hj R hR=>?_)
  ·simp only [List.take_zero,List.flatMap_nil,List.append_nil]
   rfl
  by_cases hjl:j<ys.length
  ·have d1:decide ((j:Int)<(ys.length:Int))=true:=decide_eq_true (by omega)
   have hgetj:=getD_map AV.str ys [] (AV.str []) hjl
   have hgaj:ys.getD j []=ys[j]:=by simp [List.getD_eq_getElem?_getD,List.getElem?_eq_getElem hjl]
   have hlt:=flatMap_take_le (sep ++ ·) ys (j+1)
   have hft:=flatMap_take (sep ++ ·) ys hjl
   rw [← hft] at hlt
   simp only [List.length_append] at hlt
   simp only [b_sjoin_1,d1,phiJ_2,bwsS,hX1,hgetj,hgaj,Int.toNat_natCast,List.length_map,Bs_app,go_sem,reduceDiv,reduceMod,↓reduceIte,Nat.reduceBEq,Nat.reduceLT,reduceAdd,reduceCtorEq]
   refine ⟨⟨by omega,by omega⟩,by simp only [bytesOk,List.length_append]; omega,by simp only [bytesOk,List.length_append]; omega,⟨by omega,by omega⟩,hR _ (j+1) hjl (by omega) ?_⟩
   have e:x ++ (ys.take (j+1)).flatMap (sep ++ ·)=x ++ (ys.take j).flatMap (sep ++ ·) ++ sep ++ ys[j]:=by rw [← hft]; simp
   rw [e]
   rfl
  ·have d1:decide ((j:Int)<(ys.length:Int))=false:=decide_eq_false (by omega)
   obtain rfl:j=ys.length:=by omega
   rw [List.take_length,← hjw]
   simp only [b_sjoin_1,t_sjoin_0,r_sjoin,d1,phiJ_3,bstrS,unB_Bs,go_sem,reduceDiv,reduceMod,↓reduceIte,Nat.reduceBEq,Nat.reduceLT,reduceAdd,reduceCtorEq]
set_option maxHeartbeats 2000000 in
theorem join_ok:FnOk Tryz.prog 64 joinS:=by
 refine fn_slim2 Tryz.func64 s_sjoin phiJ_ok ?_
 intro xs hp r hs hp'
 unfold joinS at hs
 split at hs
 ·injection hs with hs; subst hs
  rename_i kq ps sep
  obtain ⟨p1,p2,p3,p4,p5⟩:=hp'
  generalize ps.map unS=ps at *
  subst p1
  rw [List.length_map] at p3
  refine ⟨len_le (by kernel_rfl),?_⟩
  match ps,p2,p3,p5 with
  | [],_,_,_ =>
   simp only [c_sjoin,r_sjoin,joinW,go_sem,reduceDiv,reduceMod,↓reduceIte,reduceAdd,reduceLeDiff]
  | [x],p2,_,_ =>
   have hk:kq=1:=p2.resolve_right (by simp)
   subst hk
   simp only [c_sjoin,r_sjoin,joinW,List.flatMap_nil,List.append_nil,go_sem,reduceDiv,reduceMod,↓reduceIte,reduceAdd,reduceLeDiff,reduceCtorEq,Int.reduceEq,Int.reduceLT,Int.reduceLE,Int.reduceToNat]
  | x :: y :: rest,p2,p3,p5 =>
   have hk:kq=1:=p2.resolve_right (by simp)
   subst hk
   clear p2
   have hcore:=fun n0 h0 h1=>join_core (sep:=sep) (x:=x) (ys:=y :: rest) n0 h0 h1 p3 p4 p5
   have hpos:2≤(x :: y :: rest).length:=by simp
   generalize x :: y :: rest=zs at *
   have d0:decide ((zs.length:Int)=0)=false:=decide_eq_false (by omega)
   have d1:decide ((zs.length:Int)=1)=false:=decide_eq_false (by omega)
   have hq:=quo_big (k:=zs.length - 1) (by omega) (by omega)
   have hq:(9000000000000:Int)≤(9223372036854775807:Int).tdiv ((zs.length:Int) - 1):=by rwa [show ((zs.length - 1:Nat):Int)=(zs.length:Int) - 1 by omega] at hq
   have hq2:(9223372036854775807:Int).tdiv ((zs.length:Int) - 1)≤9223372036854775807:=by
    rw [Int.tdiv_eq_ediv_of_nonneg (by decide)]
    exact Int.ediv_le_self _ (by decide)
   have d3:decide ((9223372036854775807:Int).tdiv ((zs.length:Int) - 1)≤(sep.length:Int))=false:=decide_eq_false (by omega)
   have hmul:0≤(sep.length:Int) * ((zs.length:Int) - 1)∧(sep.length:Int) * ((zs.length:Int) - 1)≤1000000000000:=by
    have h1:sep.length * (zs.length - 1)≤1000000 * 1000000:=Nat.mul_le_mul p4 (by omega)
    have h2:(sep.length:Int) * ((zs.length:Int) - 1)=((sep.length * (zs.length - 1):Nat):Int):=by
     rw [Int.natCast_mul,show ((zs.length - 1:Nat):Int)=(zs.length:Int) - 1 by omega]
    omega
   obtain ⟨hm0,hm1⟩:=hmul
   cases h2:decide (0<(sep.length:Int)) with
   | false =>
    simp only [c_sjoin,d0,d1,h2,List.length_map,go_sem,reduceDiv,reduceMod,↓reduceIte,reduceAdd]
    exact hcore 0 (by omega) (by omega) _ _ (by rfl)
   | true =>
    simp only [c_sjoin,d0,d1,d3,h2,List.length_map,go_sem,reduceDiv,reduceMod,↓reduceIte,reduceAdd]
    generalize (9223372036854775807:Int).tdiv ((zs.length:Int) - 1)=Q at *
    generalize (sep.length:Int) * ((zs.length:Int) - 1)=M at *
    exact ⟨⟨by omega,by omega⟩,⟨by omega,by omega,by omega⟩,⟨by omega,by omega⟩,⟨by omega,by omega⟩,⟨by omega,by omega⟩,hcore (0+M) (by omega) (by omega) _ _ (by rfl)⟩
 ·cases hs
def gkeyedS:Spec:=fun xs hp=>match xs,hp with
 | [.str s],[]=>some ⟨.bool (keyedB s),[],s.length≤1000000000⟩
 | _,_=>none
theorem keyC_int (c:UInt8):keyC c=(((((decide (97≤(c.toNat:Int)) && decide ((c.toNat:Int)≤122)) || (decide (65≤(c.toNat:Int)) && decide ((c.toNat:Int)≤90))) || (decide (48≤(c.toNat:Int)) && decide ((c.toNat:Int)≤57))) || decide ((c.toNat:Int)=45)) || decide ((c.toNat:Int)=95)):=by
 unfold keyC
 have h:∀ a b:Nat,decide (a≤b)=decide ((a:Int)≤(b:Int)):=fun a b=>by rw [Bool.eq_iff_iff]; simp
 have h2:∀ a b:Nat,decide (a=b)=decide ((a:Int)=(b:Int)):=fun a b=>by rw [Bool.eq_iff_iff,decide_eq_true_eq,decide_eq_true_eq]; omega
 rw [h 97,h _ 122,h 65,h _ 90,h 48,h _ 57,h2 _ 45,h2 _ 95]
 rfl
set_option maxHeartbeats 2000000 in
theorem gkeyed_ok:FnOk Tryz.prog 87 gkeyedS:=by
 refine fn_slim2 Tryz.func87 s_gkeyed (Φ:=phiL []) phi_nil ?_
 intro xs hp r hs hp'
 unfold gkeyedS at hs
 split at hs
 ·injection hs with hs; subst hs
  rename_i s
  have p1:s.length≤1000000000:=hp'
  refine ⟨len_le (by kernel_rfl),?_⟩
  simp only [c_gkeyed,go_sem,reduceDiv,reduceMod,↓reduceIte]
  refine ⟨by (first | omega | (simp only [lenOk]; omega)),?_⟩
  refine loop2P [] [0,6,7,8] [0] (fun i:Nat=>⟨[(0,.str s),(6,.own 0 0),(7,.int .i64 (s.length:Int)),(8,.int .i64 (i:Int))],[.row 5 1 0 (Bs s)]⟩)
   (fun i=>i≤s.length∧(s.take i).all keyC=true) (fun i=>s.length - i) 0 (by rfl) ⟨Nat.zero_le _,by simp⟩ ⟨rfl,by rfl⟩ (fun i hi R hR=>?_)
  obtain ⟨i1,i2⟩:=hi
  by_cases hil:i<s.length
  ·have c1:decide ((i:Int)<(s.length:Int))=true:=decide_eq_true (by omega)
   have hga:s.getD i 0=s[i]:=by simp [List.getD_eq_getElem?_getD,List.getElem?_eq_getElem hil]
   have hk:=keyC_int s[i]
   have hlt:=s[i].toNat_lt
   have hnext:keyC s[i]=true→(s.take (i+1)).all keyC=true:=fun h=>by
    rw [List.take_add_one,List.getElem?_eq_getElem hil,Option.toList_some,List.all_append,i2]; simp [h]
   have hbad:keyC s[i]=false→keyedB s=false:=fun h=>by
    unfold keyedB
    rw [show s.all keyC=false from List.all_eq_false.2 ⟨s[i],List.getElem_mem _,by rw [h]; simp⟩,Bool.and_false]
   generalize hn:(s[i].toNat:Int)=n at *
   have hn0:0≤n:=by omega
   have hc:n=45∨n=95∨(97≤n∧n≤122)∨(65≤n∧n≤90)∨(48≤n∧n≤57)∨n<45∨(45<n∧n<48)∨(57<n∧n<65)∨(90<n∧n<95)∨n=96∨122<n:=by omega
   have hat:(((s.getD i 0).toNat:Nat):Int)=n:=by rw [hga]; exact hn
   rcases hc with h | h | h | h | h | h | h | h | h | h | h
   all_goals (
    first | have f1:decide (97≤n)=true:=decide_eq_true (by omega) | have f1:decide (97≤n)=false:=decide_eq_false (by omega)
    first | have f2:decide (n≤122)=true:=decide_eq_true (by omega) | have f2:decide (n≤122)=false:=decide_eq_false (by omega)
    first | have f3:decide (65≤n)=true:=decide_eq_true (by omega) | have f3:decide (65≤n)=false:=decide_eq_false (by omega)
    first | have f4:decide (n≤90)=true:=decide_eq_true (by omega) | have f4:decide (n≤90)=false:=decide_eq_false (by omega)
    first | have f5:decide (48≤n)=true:=decide_eq_true (by omega) | have f5:decide (48≤n)=false:=decide_eq_false (by omega)
    first | have f6:decide (n≤57)=true:=decide_eq_true (by omega) | have f6:decide (n≤57)=false:=decide_eq_false (by omega)
    first | have f7:decide (n=45)=true:=decide_eq_true (by omega) | have f7:decide (n=45)=false:=decide_eq_false (by omega)
    first | have f8:decide (n=95)=true:=decide_eq_true (by omega) | have f8:decide (n=95)=false:=decide_eq_false (by omega)
    rw [f1,f2,f3,f4,f5,f6,f7,f8] at hk
    simp only [Bool.and_true,Bool.and_false,Bool.or_true,Bool.or_false] at hk
    clear h
    simp only [b_gkeyed_0,r_gkeyed,c1,hat,f1,f2,f3,f4,f5,f6,f7,f8,Int.toNat_natCast,go_sem,reduceDiv,reduceMod,↓reduceIte])
   all_goals first | exact ⟨⟨by omega,by omega⟩,hil,⟨by omega,by omega⟩,hR _ (i+1) ⟨hil,hnext hk⟩ (by omega) rfl⟩ | exact ⟨⟨by omega,by omega⟩,hil,by rw [hbad hk]⟩
  ·have c1:decide ((i:Int)<(s.length:Int))=false:=decide_eq_false (by omega)
   rw [List.take_of_length_le (by omega)] at i2
   have hl2:decide ((s.length:Int)≤100)=decide (s.length≤100):=by rw [Bool.eq_iff_iff]; simp; omega
   have hkb:keyedB s=(!decide (s=[]) && decide (s.length≤100)):=by unfold keyedB; rw [i2,Bool.and_true]; simp
   rw [hkb]
   cases h1:decide (s=[]) with
   | true =>
    simp only [b_gkeyed_0,t_gkeyed_0,r_gkeyed,c1,h1,Bool.not_true,Bool.false_and,go_sem,reduceDiv,reduceMod,↓reduceIte]
   | false =>
    simp only [b_gkeyed_0,t_gkeyed_0,r_gkeyed,c1,h1,hl2,Bool.not_false,Bool.true_and,go_sem,reduceDiv,reduceMod,↓reduceIte]
 ·cases hs
def gtoldS:Spec:=fun xs hp=>match xs,hp with
 | [.str s],[]=>some ⟨.str (tolL s),[],s.length≤100000000⟩
 | _,_=>none
theorem tol_take (s:List UInt8) {i:Nat} (h:i<s.length):tolL (s.take (i+1))=tolL (s.take i) ++ escC s[i]:=by
 unfold tolL
 rw [List.take_add_one,List.getElem?_eq_getElem h,Option.toList_some,List.flatMap_append,List.flatMap_cons,List.flatMap_nil,List.append_nil]
theorem tol_len (s:List UInt8):(tolL s).length≤2 * s.length:=by
  unfold tolL
  induction s with
  | nil=>simp
  | cons c s ih =>
    rw [List.flatMap_cons,List.length_append,List.length_cons]
    have : (escC c).length ≤ 2 := by unfold escC; repeat' split
                                     all_goals simp
    omega
theorem tol_take_len (s:List UInt8) (i:Nat):(tolL (s.take i)).length≤2 * s.length:=by
 have h1:=tol_len (s.take i)
 rw [List.length_take] at h1; omega
def bldX (i:Nat):AV:=if i=0 then .con (.pointer none) else .ref 0 0 0
theorem bldX_or (i:Nat):bldX i=.con (.pointer none)∨bldX i=.ref 0 0 0:=by
 unfold bldX; split
 ·exact .inl rfl
 ·exact .inr rfl
def phiB:Phi:=phiL [(50,[],bwsS),(80,[],bwbS),(53,[],bstrS)]
theorem phiB_ok:PhiOk Tryz.prog phiB:=phi_cons bws_ok (by kernel_rfl) (phi_cons bwb_ok (by kernel_rfl) (phi_cons bstr_ok (by kernel_rfl) phi_nil))
theorem phiB_1:phiB 50=some ([],bwsS):=rfl
theorem phiB_2:phiB 80=some ([],bwbS):=rfl
theorem phiB_3:phiB 53=some ([],bstrS):=rfl
set_option maxHeartbeats 2000000 in
theorem gtold_ok:FnOk Tryz.prog 63 gtoldS:=by
 refine fn_slim2 Tryz.func63 s_gtold phiB_ok ?_
 intro xs hp r hs hp'
 unfold gtoldS at hs
 split at hs
 ·injection hs with hs; subst hs
  rename_i s
  have p1:s.length≤100000000:=hp'
  refine ⟨len_le (by kernel_rfl),?_⟩
  simp only [c_gtold,go_sem,reduceDiv,reduceMod,↓reduceIte,reduceAdd]
  refine ⟨by (first | omega | (simp only [lenOk]; omega)),?_⟩
  refine loop2P [(4097,5,1)] [0,3,7,8,9] [0,1,2] (fun i:Nat=>⟨[(0,.str s),(3,.ref 0 0 0),(7,.own 1 0),(8,.int .i64 (s.length:Int)),(9,.int .i64 (i:Int))],
   [.cells 97 [(1,bldX i),(1,.own 2 i)],.row 5 1 0 (Bs s),.row 5 1 i (Bs (tolL (s.take i)))]⟩)
   (fun i=>i≤s.length) (fun i=>s.length - i) 0 (by rfl) (Nat.zero_le _) ⟨rfl,by rfl⟩ (fun i hi R hR=>?_)
  have hX0:selfX (.con (.pointer none))=true:=rfl
  have hX1:selfX (.ref 0 0 0)=true:=rfl
  by_cases hil:i<s.length
  ·have c1:decide ((i:Int)<(s.length:Int))=true:=decide_eq_true (by omega)
   have hga:s.getD i 0=s[i]:=by simp [List.getD_eq_getElem?_getD,List.getElem?_eq_getElem hil]
   have htk:=tol_take s hil
   have htl:=tol_take_len s i
   have htl2:=tol_take_len s (i+1)
   have hb1:bldX (i+1)=.ref 0 0 0:=rfl
   generalize hc:s[i]=c at *
   have hcn:∀ k:UInt8,decide (((c.toNat:Nat):Int)=((k.toNat:Nat):Int))=decide (c=k):=fun k=>by
    rw [Bool.eq_iff_iff,decide_eq_true_eq,decide_eq_true_eq]
    constructor
    ·intro h; exact UInt8.toNat_inj.1 (by omega)
    ·rintro rfl; rfl
   have g1:=hcn 92
   have g2:=hcn 10
   have g3:=hcn 13
   have g4:=hcn 0
   have g1:decide (((c.toNat:Nat):Int)=92)=decide (c=92):=g1
   have g2:decide (((c.toNat:Nat):Int)=10)=decide (c=10):=g2
   have g3:decide (((c.toNat:Nat):Int)=13)=decide (c=13):=g3
   have g4:decide (((c.toNat:Nat):Int)=0)=decide (c=0):=g4
   have fin:∀ e:List UInt8,escC c=e→tolL (s.take (i+1))=tolL (s.take i) ++ e:=fun e he=>by rw [htk,he]
   rcases bldX_or i with hbi | hbi
   all_goals (
    by_cases h1:c=92
    ·have d1:decide (c=92)=true:=decide_eq_true h1
     have e:=fin [92,92] (by rw [h1]; rfl)
     simp only [b_gtold_0,hbi,c1,hga,g1,d1,phiB_1,bwsS,hX0,hX1,Int.toNat_natCast,go_sem,reduceDiv,reduceMod,↓reduceIte,Nat.reduceBEq,Nat.reduceLT,reduceAdd,reduceCtorEq]
     exact ⟨⟨by omega,by omega⟩,hil,by (first | omega | (simp only [bytesOk]; omega)),⟨by omega,by omega⟩,hR _ (i+1) hil (by omega) (by simp only [hb1,e,← Bs_app]; rfl)⟩
    have d1:decide (c=92)=false:=decide_eq_false h1
    by_cases h2:c=10
    ·have d2:decide (c=10)=true:=decide_eq_true h2
     have e:=fin [92,110] (by rw [h2]; rfl)
     simp only [b_gtold_0,hbi,c1,hga,g1,d1,g2,d2,phiB_1,bwsS,hX0,hX1,Int.toNat_natCast,go_sem,reduceDiv,reduceMod,↓reduceIte,Nat.reduceBEq,Nat.reduceLT,reduceAdd,reduceCtorEq]
     exact ⟨⟨by omega,by omega⟩,hil,by (first | omega | (simp only [bytesOk]; omega)),⟨by omega,by omega⟩,hR _ (i+1) hil (by omega) (by simp only [hb1,e,← Bs_app]; rfl)⟩
    have d2:decide (c=10)=false:=decide_eq_false h2
    by_cases h3:c=13
    ·have d3:decide (c=13)=true:=decide_eq_true h3
     have e:=fin [92,114] (by rw [h3]; rfl)
     simp only [b_gtold_0,hbi,c1,hga,g1,d1,g2,d2,g3,d3,phiB_1,bwsS,hX0,hX1,Int.toNat_natCast,go_sem,reduceDiv,reduceMod,↓reduceIte,Nat.reduceBEq,Nat.reduceLT,reduceAdd,reduceCtorEq]
     exact ⟨⟨by omega,by omega⟩,hil,by (first | omega | (simp only [bytesOk]; omega)),⟨by omega,by omega⟩,hR _ (i+1) hil (by omega) (by simp only [hb1,e,← Bs_app]; rfl)⟩
    have d3:decide (c=13)=false:=decide_eq_false h3
    by_cases h4:c=0
    ·have d4:decide (c=0)=true:=decide_eq_true h4
     have e:=fin [92,48] (by rw [h4]; rfl)
     simp only [b_gtold_0,hbi,c1,hga,g1,d1,g2,d2,g3,d3,g4,d4,phiB_1,bwsS,hX0,hX1,Int.toNat_natCast,go_sem,reduceDiv,reduceMod,↓reduceIte,Nat.reduceBEq,Nat.reduceLT,reduceAdd,reduceCtorEq]
     exact ⟨⟨by omega,by omega⟩,hil,by (first | omega | (simp only [bytesOk]; omega)),⟨by omega,by omega⟩,hR _ (i+1) hil (by omega) (by simp only [hb1,e,← Bs_app]; rfl)⟩
    have d4:decide (c=0)=false:=decide_eq_false h4
    have e:=fin [c] (by unfold escC; rw [if_neg h1,if_neg h2,if_neg h3,if_neg h4])
    simp only [b_gtold_0,hbi,c1,hga,g1,d1,g2,d2,g3,d3,g4,d4,phiB_2,bwbS,hX0,hX1,Int.toNat_natCast,go_sem,reduceDiv,reduceMod,↓reduceIte,Nat.reduceBEq,Nat.reduceLT,reduceAdd,reduceCtorEq]
    exact ⟨⟨by omega,by omega⟩,hil,by (first | omega | (simp only [bytesOk]; omega)),⟨by omega,by omega⟩,hR _ (i+1) hil (by omega) (by simp only [hb1,e,← Bs_push]; rfl)⟩)
  ·have c1:decide ((i:Int)<(s.length:Int))=false:=decide_eq_false (by omega)
   obtain rfl:i=s.length:=by omega
   rw [List.take_length]
   rcases bldX_or s.length with hbi | hbi
   all_goals simp only [b_gtold_0,t_gtold_0,r_gtold,hbi,c1,phiB_3,bstrS,unB_Bs,go_sem,reduceDiv,reduceMod,↓reduceIte,Nat.reduceBEq,Nat.reduceLT,reduceAdd,reduceCtorEq]
 ·cases hs
theorem at8_nat {l:List UInt8} {i:Nat} (h:i<l.length):at8 l i=((l[i].toNat:Nat):Int):=by
 unfold at8; rw [List.getD_eq_getElem?_getD,List.getElem?_eq_getElem h]; rfl
theorem u8_eq (c k:UInt8):decide (((c.toNat:Nat):Int)=((k.toNat:Nat):Int))=decide (c=k):=by
 rw [Bool.eq_iff_iff,decide_eq_true_eq,decide_eq_true_eq]
 constructor
 ·intro h; exact UInt8.toNat_inj.1 (by omega)
 ·rintro rfl; rfl
open Go.Lib (index hasPrefix trimPrefix cut indexAny)
def cutPreS:Spec:=fun xs hp=>match xs,hp with
 | [.str s,.str p],[]=>some ⟨.tup [.str (trimPrefix s p),.bool (hasPrefix s p)],[],True⟩
 | _,_=>none
theorem cutPre_ok:FnOk Tryz.prog 105 cutPreS:=by
 refine fnok_of_calls fun xs0 hp r hs hp' => ?_
 unfold cutPreS at hs
 split at hs
 ·rename_i s p
  injection hs with hs; subst hs
  refine ⟨rfl,rfl,fun w S ρ args hS ha=>?_⟩
  obtain ⟨v,vs,rfl,hv,hr⟩:=ha.get _ _ rfl
  obtain ⟨u,us,rfl,hu,hr⟩:=hr.get _ _ rfl
  obtain rfl:=hr.none
  rw [hv.str,hu.str]
  refine (Tryz.strings_CutPrefix ⟨s.toArray⟩ ⟨p.toArray⟩ w).mono ?_
  rintro e w' ⟨rfl,rfl⟩
  exact ⟨_,rfl,Below.refl _ _,fun _ _ _=>Vl.tup2 (Vl.str' _) (Vl.bool' _)⟩
 ·cases hs
theorem css_strs {w:World} {S:Nat→Prop} {ρ:Rho}:∀ ps:List (List UInt8),Css w S ρ (prs 1 (ps.map AV.str)) (ps.map fun l=>Value.string ⟨l.toArray⟩)
 | []=>rfl
 | l :: ps=>⟨[_],_,rfl,rfl,.str l,css_strs ps⟩
def splitS:Spec:=fun xs hp=>match xs,hp with
 | [.str s,.str [c]],[]=>some ⟨.own 0 0,[.row 9 1 0 ((psl c s).map AV.str)],s.length<4294967281⟩
 | _,_=>none
theorem split_ok:FnOk Tryz.prog 109 splitS:=by
 refine fnok_row fun xs0 hp r hs hp' => ?_
 unfold splitS at hs
 split at hs
 ·rename_i s c
  injection hs with hs; subst hs
  refine ⟨rfl,_,_,_,rfl,rfl,fun w S ρ args hS ha=>?_⟩
  obtain ⟨m,hm⟩:=maxLen_cell ha.glob
  obtain ⟨v,vs,rfl,hv,hr⟩:=ha.get _ _ rfl
  obtain ⟨u,us,rfl,hu,hr⟩:=hr.get _ _ rfl
  obtain rfl:=hr.none
  rw [hv.str,hu.str]
  refine (Tryz.strings_Split ⟨s.toArray⟩ ⟨[c].toArray⟩ m w (by rw [Lib.size_eq]; exact hp') hm (Nat.le_refl 1)).mono ?_
  rintro e w' ⟨rfl,rfl⟩
  have e1:(Lib.splitB ⟨[c].toArray⟩ 0 (Lib.countB ⟨s.toArray⟩ ⟨[c].toArray⟩) ⟨s.toArray⟩).map (·.data.toList)=psl c s:=by
   rw [Lib.splitB_data]; exact splitK_psl c s
  obtain ⟨X,hX⟩:∃ X,Lib.splitB ⟨[c].toArray⟩ 0 (Lib.countB ⟨s.toArray⟩ ⟨[c].toArray⟩) ⟨s.toArray⟩=X:=⟨_,rfl⟩
  have e2:X.length=Lib.countB ⟨s.toArray⟩ ⟨[c].toArray⟩+1:=by rw [← hX]; exact Lib.splitB_all ⟨[c].toArray⟩ (Nat.le_refl 1) 0 _ _ rfl
  rw [hX] at e1
  have e3:X.map Value.string=(psl c s).map fun l=>Value.string ⟨l.toArray⟩:=by
   rw [← e1,List.map_map]
   refine List.map_congr_left fun x _=>?_
   simp only [Function.comp_apply,of_bs]
  have e4:(psl c s).length=Lib.countB ⟨s.toArray⟩ ⟨[c].toArray⟩+1:=by rw [← e1,List.length_map,e2]
  have e5:=psl_join_len c s
  have hp2:s.length<4294967281:=hp'
  rw [hX,e3,← e4]
  refine ⟨w.heap.size,_,_,_,((psl c s).map fun l=>Value.string ⟨l.toArray⟩).toArray,(0,0),rfl,(Below.refl _ _).alloc (Nat.le_refl _) _,Nat.le_refl _,?_,.inl rfl,Nat.le_refl _,by omega,by simp,?_,by simp,by simp,css_strs _⟩
  ·show (w.heap.push (Obj.cells _ _ _))[w.heap.size]?=_
   simp
  ·rw [List.take_of_length_le (by simp)]
 ·cases hs
open Go.Lib (index hasPrefix trimPrefix cut indexAny itoa)
theorem pre_head (s:List UInt8):hasPrefix s [45]=decide (s.head?=some 45):=by
 cases s with
 | nil=>rfl
 | cons c t =>
  show (([45]:List UInt8).isPrefixOf (c :: t))=_
  rw [Bool.eq_iff_iff]; simp [List.isPrefixOf]
  exact eq_comm
def idxAny3S:Spec:=fun xs hp=>match xs,hp with
 | [.str s,.str p],[]=>some ⟨.int .i64 (indexAny s p),[],p=[0,10,13]∧s.length<4294967281⟩
 | _,_=>none
theorem idxAny3_ok:FnOk Tryz.prog 98 idxAny3S:=by
 refine idxAny_ok.imp fun xs hp r hs hp' => ?_
 unfold idxAny3S at hs
 split at hs
 ·injection hs with hs; subst hs
  obtain ⟨rfl,p2⟩:=hp'
  exact ⟨_,rfl,⟨by decide,p2⟩,rfl,rfl⟩
 ·cases hs
end Go.Proofs.YtgaehhechonegaaGreatDoor
