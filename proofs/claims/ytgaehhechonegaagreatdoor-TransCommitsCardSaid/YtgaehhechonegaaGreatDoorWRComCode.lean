import Derived.Test.YtgaehhechonegaaGreatDoorChecked
import Derived.Test.YtgaehhechonegaaGreatDoorWAMS
import Derived.Test.YtgaehhechonegaaGreatDoorWFCom5
import Derived.Test.YtgaehhechonegaaGreatDoorWShaParse
open Nat (reduceDiv reduceMod reduceSub reduceAdd reduceLeDiff reduceEqDiff)
set_option linter.all false
namespace Go.Proofs.YtgaehhechonegaaGreatDoor
open Go.RowKit
def b_rright11_0:ACode:=(.seq (.seq (.reg none [oS 4 (.mv (.t 3)),oS 5 (.fa 29 (.t 1)),oS 6 (.ld (.one (.con (.slice none 0 0))) (.t 5)),oS 7 (.len none false (.t 6)),oS 8 (.bin .lss (.t 4) (.t 7))]) (.cond (.t 8) .skip (.exit 0))) (.seq (.block 1 (.seq (.reg none [oS 11 (.fa 29 (.t 1)),oS 12 (.ld (.one (.con (.slice none 0 0))) (.t 11)),oS 13 (.mv (.t 3)),oS 14 (.ia 2 (.agg [(1,(.str [])),(1,(.str []))]) (.t 12) (.t 13)),oS 15 (.ld (.st 2) (.t 14)),oS 16 (.call 32 [(.t 15)]),oS 17 (.un .not (.t 16))]) (.cond (.t 17) (.seq (.reg none [oS 2 (.mv (.c (.bool false)))]) .ret) .skip))) (.reg none [oS 9 (.mv (.t 3)),oS 10 (.bin .add (.t 9) (.c (.int .i64 1))),oS 3 (.mv (.t 10))])))
def t_rright11_0:ACode:=(.seq (.reg none [oS 18 (.fa 21 (.t 1)),oS 19 (.ld (.st 4) (.t 18)),oS 20 (.call 33 [(.t 19)]),oS 21 (.mv (.t 20)),oG 22 (.fa 25 (.t 1)) 21,oG 23 (.ld (.st 4) (.t 22)) 21,oG 24 (.call 33 [(.t 23)]) 21,oS 25 (.pick (.t 21) (.t 24) (.c (.bool false))),oS 2 (.mv (.t 25))]) .ret)
def c_rright11:ACode:=(.seq (.reg none [oS 1 (.box 28 31 (.t 0)),oS 2 (.mv (.c (.bool false)))]) (.seq (.seq (.reg none [oS 3 (.mv (.c (.int .i64 0)))]) (.block 0 (.loop b_rright11_0))) t_rright11_0))
def r_rright11:List ARes:=[(.t 2)]
theorem s_rright11:slimF Tryz.prog Tryz.f12=some (c_rright11,r_rright11):=by kernel_rfl
def b_rprn_0:ACode:=(.seq (.seq (.reg none [oS 11 (.mv (.t 4)),oS 12 (.fa 20 (.t 1)),oS 13 (.ld (.one (.con (.slice none 0 0))) (.t 12)),oS 14 (.len none false (.t 13)),oS 15 (.bin .lss (.t 11) (.t 14))]) (.cond (.t 15) .skip (.exit 0))) (.seq (.block 1 (.reg none [oS 18 (.mv (.t 3)),oS 19 (.bin .add (.t 18) (.c (.str [112,97,114,101,110,116,32]))),oS 20 (.fa 20 (.t 1)),oS 21 (.ld (.one (.con (.slice none 0 0))) (.t 20)),oS 22 (.mv (.t 4)),oS 23 (.ia 20 (.blob (List.replicate 20 (.int .u8 0))) (.t 21) (.t 22)),oS 24 (.ld (.arr 20) (.t 23)),oS 25 (.call 41 [(.t 24)]),oS 26 (.bin .add (.t 19) (.t 25)),oS 27 (.bin .add (.t 26) (.c (.str [10]))),oS 3 (.mv (.t 27))])) (.reg none [oS 16 (.mv (.t 4)),oS 17 (.bin .add (.t 16) (.c (.int .i64 1))),oS 4 (.mv (.t 17))])))
def b_rprn_1:ACode:=(.seq (.seq (.reg none [oS 41 (.mv (.t 5)),oS 42 (.fa 29 (.t 1)),oS 43 (.ld (.one (.con (.slice none 0 0))) (.t 42)),oS 44 (.len none false (.t 43)),oS 45 (.bin .lss (.t 41) (.t 44))]) (.cond (.t 45) .skip (.exit 2))) (.seq (.block 3 (.reg (some [(0,false),(1,false),(2,false),(3,false),(4,false),(5,false),(6,false),(7,false),(8,false),(9,false),(10,false),(11,false),(12,false),(13,false),(14,false),(15,false),(16,true),(17,true),(18,true)]) [oS 48 (.mv (.t 3)),oS 49 (.fa 29 (.t 1)),oS 50 (.ld (.one (.con (.slice none 0 0))) (.t 49)),oS 51 (.mv (.t 5)),oS 52 (.ia 2 (.agg [(1,(.str [])),(1,(.str []))]) (.t 50) (.t 51)),oS 53 (.fa 0 (.t 52)),oS 54 (.ld (.one (.str [])) (.t 53)),oS 55 (.bin .add (.t 48) (.t 54)),oS 56 (.bin .add (.t 55) (.c (.str [32]))),oS 57 (.fa 29 (.t 1)),oS 58 (.ld (.one (.con (.slice none 0 0))) (.t 57)),oS 59 (.mv (.t 5)),oS 60 (.ia 2 (.agg [(1,(.str [])),(1,(.str []))]) (.t 58) (.t 59)),oS 61 (.fa 1 (.t 60)),oS 62 (.ld (.one (.str [])) (.t 61)),oS 63 (.call 43 [(.t 62)]),oS 64 (.bin .add (.t 56) (.t 63)),oS 65 (.bin .add (.t 64) (.c (.str [10]))),oS 3 (.mv (.t 65))])) (.reg none [oS 46 (.mv (.t 5)),oS 47 (.bin .add (.t 46) (.c (.int .i64 1))),oS 5 (.mv (.t 47))])))
def t_rprn_0:ACode:=(.seq (.reg none [oS 66 (.mv (.t 3)),oS 67 (.bin .add (.t 66) (.c (.str [10]))),oS 68 (.fa 30 (.t 1)),oS 69 (.ld (.one (.str [])) (.t 68)),oS 70 (.bin .add (.t 67) (.t 69)),oS 2 (.mv (.t 70))]) .ret)
def t_rprn_1:ACode:=(.seq (.reg (some [(0,false),(1,false),(2,false),(3,false),(4,false),(5,false),(6,false),(7,false),(4,false),(4,false),(10,false),(11,true),(12,true),(13,true)]) [oS 28 (.mv (.t 3)),oS 29 (.bin .add (.t 28) (.c (.str [97,117,116,104,111,114,32]))),oS 30 (.fa 21 (.t 1)),oS 31 (.ld (.st 4) (.t 30)),oS 32 (.call 42 [(.t 31)]),oS 33 (.bin .add (.t 29) (.t 32)),oS 34 (.bin .add (.t 33) (.c (.str [10]))),oS 35 (.bin .add (.t 34) (.c (.str [99,111,109,109,105,116,116,101,114,32]))),oS 36 (.fa 25 (.t 1)),oS 37 (.ld (.st 4) (.t 36)),oS 38 (.call 42 [(.t 37)]),oS 39 (.bin .add (.t 35) (.t 38)),oS 40 (.bin .add (.t 39) (.c (.str [10]))),oS 3 (.mv (.t 40))]) (.seq (.seq (.reg none [oS 5 (.mv (.c (.int .i64 0)))]) (.block 2 (.loop b_rprn_1))) t_rprn_0))
def c_rprn:ACode:=(.seq (.reg none [oS 1 (.box 28 31 (.t 0)),oS 2 (.mv (.c (.str [])))]) (.seq (.reg none [oS 6 (.fa 0 (.t 1)),oS 7 (.ld (.arr 20) (.t 6)),oS 8 (.call 41 [(.t 7)]),oS 9 (.bin .add (.c (.str [116,114,101,101,32])) (.t 8)),oS 10 (.bin .add (.t 9) (.c (.str [10]))),oS 3 (.mv (.t 10))]) (.seq (.seq (.reg none [oS 4 (.mv (.c (.int .i64 0)))]) (.block 0 (.loop b_rprn_0))) t_rprn_1)))
def r_rprn:List ARes:=[(.t 2)]
theorem s_rprn:slimF Tryz.prog Tryz.f24=some (c_rprn,r_rprn):=by kernel_rfl
def b_rsame_0:ACode:=(.seq (.seq (.reg none [oS 51 (.mv (.t 5)),oS 52 (.fa 20 (.t 2)),oS 53 (.ld (.one (.con (.slice none 0 0))) (.t 52)),oS 54 (.len none false (.t 53)),oS 55 (.bin .lss (.t 51) (.t 54))]) (.cond (.t 55) .skip (.exit 0))) (.seq (.block 1 (.seq (.reg (some [(0,false),(1,false),(2,false),(3,false),(4,false),(5,false),(6,false),(7,false),(8,false),(9,false),(10,true)]) [oS 58 (.fa 20 (.t 2)),oS 59 (.ld (.one (.con (.slice none 0 0))) (.t 58)),oS 60 (.mv (.t 5)),oS 61 (.ia 20 (.blob (List.replicate 20 (.int .u8 0))) (.t 59) (.t 60)),oS 62 (.ld (.arr 20) (.t 61)),oS 63 (.fa 20 (.t 3)),oS 64 (.ld (.one (.con (.slice none 0 0))) (.t 63)),oS 65 (.mv (.t 5)),oS 66 (.ia 20 (.blob (List.replicate 20 (.int .u8 0))) (.t 64) (.t 65)),oS 67 (.ld (.arr 20) (.t 66)),oS 68 (.eqA true 20 (.t 62) (.t 67))]) (.cond (.t 68) (.seq (.reg none [oS 4 (.mv (.c (.bool false)))]) .ret) .skip))) (.reg none [oS 56 (.mv (.t 5)),oS 57 (.bin .add (.t 56) (.c (.int .i64 1))),oS 5 (.mv (.t 57))])))
def b_rsame_1:ACode:=(.seq (.seq (.reg none [oS 69 (.mv (.t 6)),oS 70 (.fa 29 (.t 2)),oS 71 (.ld (.one (.con (.slice none 0 0))) (.t 70)),oS 72 (.len none false (.t 71)),oS 73 (.bin .lss (.t 69) (.t 72))]) (.cond (.t 73) .skip (.exit 2))) (.seq (.block 3 (.seq (.reg (some [(0,false),(1,false),(2,false),(3,false),(4,false),(5,false),(6,false),(7,false),(8,false),(9,false),(10,true)]) [oS 76 (.fa 29 (.t 2)),oS 77 (.ld (.one (.con (.slice none 0 0))) (.t 76)),oS 78 (.mv (.t 6)),oS 79 (.ia 2 (.agg [(1,(.str [])),(1,(.str []))]) (.t 77) (.t 78)),oS 80 (.ld (.st 2) (.t 79)),oS 81 (.fa 29 (.t 3)),oS 82 (.ld (.one (.con (.slice none 0 0))) (.t 81)),oS 83 (.mv (.t 6)),oS 84 (.ia 2 (.agg [(1,(.str [])),(1,(.str []))]) (.t 82) (.t 83)),oS 85 (.ld (.st 2) (.t 84)),oS 86 (.eqS true [(0,((.one (.str [])),0)),(1,((.one (.str [])),0))] (.t 80) (.t 85))]) (.cond (.t 86) (.seq (.reg none [oS 4 (.mv (.c (.bool false)))]) .ret) .skip))) (.reg none [oS 74 (.mv (.t 6)),oS 75 (.bin .add (.t 74) (.c (.int .i64 1))),oS 6 (.mv (.t 75))])))
def t_rsame_0:ACode:=(.seq (.reg none [oS 4 (.mv (.c (.bool true)))]) .ret)
def t_rsame_1:ACode:=(.seq (.seq (.reg none [oS 6 (.mv (.c (.int .i64 0)))]) (.block 2 (.loop b_rsame_1))) t_rsame_0)
def c_rsame:ACode:=(.seq (.reg none [oS 2 (.box 28 31 (.t 0)),oS 3 (.box 28 31 (.t 1)),oS 4 (.mv (.c (.bool false)))]) (.seq (.seq (.reg none [oS 7 (.fa 0 (.t 2)),oS 8 (.ld (.arr 20) (.t 7)),oS 9 (.fa 0 (.t 3)),oS 10 (.ld (.arr 20) (.t 9)),oS 11 (.eqA true 20 (.t 8) (.t 10)),oS 12 (.mv (.t 11)),oH 13 (.fa 21 (.t 2)) 12,oH 14 (.ld (.st 4) (.t 13)) 12,oH 15 (.fa 21 (.t 3)) 12,oH 16 (.ld (.st 4) (.t 15)) 12,oH 17 (.eqS true [(0,((.one (.str [])),0)),(1,((.one (.str [])),0)),(2,((.one (.int .i64 0)),1)),(3,((.one (.str [])),0))] (.t 14) (.t 16)) 12,oS 18 (.pick (.t 12) (.c (.bool true)) (.t 17)),oS 19 (.mv (.t 18)),oH 20 (.fa 25 (.t 2)) 19,oH 21 (.ld (.st 4) (.t 20)) 19,oH 22 (.fa 25 (.t 3)) 19,oH 23 (.ld (.st 4) (.t 22)) 19,oH 24 (.eqS true [(0,((.one (.str [])),0)),(1,((.one (.str [])),0)),(2,((.one (.int .i64 0)),1)),(3,((.one (.str [])),0))] (.t 21) (.t 23)) 19,oS 25 (.pick (.t 19) (.c (.bool true)) (.t 24)),oS 26 (.mv (.t 25)),oH 27 (.fa 30 (.t 2)) 26,oH 28 (.ld (.one (.str [])) (.t 27)) 26,oH 29 (.fa 30 (.t 3)) 26,oH 30 (.ld (.one (.str [])) (.t 29)) 26,oH 31 (.bin .neq (.t 28) (.t 30)) 26,oS 32 (.pick (.t 26) (.c (.bool true)) (.t 31)),oS 33 (.mv (.t 32)),oH 34 (.fa 20 (.t 2)) 33,oH 35 (.ld (.one (.con (.slice none 0 0))) (.t 34)) 33,oH 36 (.len none false (.t 35)) 33,oH 37 (.fa 20 (.t 3)) 33,oH 38 (.ld (.one (.con (.slice none 0 0))) (.t 37)) 33,oH 39 (.len none false (.t 38)) 33,oH 40 (.bin .neq (.t 36) (.t 39)) 33,oS 41 (.pick (.t 33) (.c (.bool true)) (.t 40)),oS 42 (.mv (.t 41)),oH 43 (.fa 29 (.t 2)) 42,oH 44 (.ld (.one (.con (.slice none 0 0))) (.t 43)) 42,oH 45 (.len none false (.t 44)) 42,oH 46 (.fa 29 (.t 3)) 42,oH 47 (.ld (.one (.con (.slice none 0 0))) (.t 46)) 42,oH 48 (.len none false (.t 47)) 42,oH 49 (.bin .neq (.t 45) (.t 48)) 42,oS 50 (.pick (.t 42) (.c (.bool true)) (.t 49))]) (.cond (.t 50) (.seq (.reg none [oS 4 (.mv (.c (.bool false)))]) .ret) .skip)) (.seq (.seq (.reg none [oS 5 (.mv (.c (.int .i64 0)))]) (.block 0 (.loop b_rsame_0))) t_rsame_1)))
def r_rsame:List ARes:=[(.t 4)]
theorem s_rsame:slimF Tryz.prog Tryz.f17=some (c_rsame,r_rsame):=by kernel_rfl
def b_rperson_0:ACode:=(.seq (.seq (.reg none [oS 40 (.mv (.t 3)),oS 41 (.bin .lss (.t 40) (.c (.int .i64 5)))]) (.cond (.t 41) .skip (.exit 0))) (.seq (.block 1 (.seq (.reg none [oS 44 (.fa 3 (.t 1)),oS 45 (.ld (.one (.str [])) (.t 44)),oS 46 (.mv (.t 3)),oS 47 (.idxS (.t 45) (.t 46)),oS 48 (.bin .lss (.t 47) (.c (.int .u8 48))),oS 49 (.mv (.t 48)),oH 50 (.fa 3 (.t 1)) 49,oH 51 (.ld (.one (.str [])) (.t 50)) 49,oH 52 (.mv (.t 3)) 49,oH 53 (.idxS (.t 51) (.t 52)) 49,oH 54 (.bin .gtr (.t 53) (.c (.int .u8 57))) 49,oS 55 (.pick (.t 49) (.c (.bool true)) (.t 54))]) (.cond (.t 55) (.seq (.reg none [oS 2 (.mv (.c (.bool false)))]) .ret) .skip))) (.reg none [oS 42 (.mv (.t 3)),oS 43 (.bin .add (.t 42) (.c (.int .i64 1))),oS 3 (.mv (.t 43))])))
def t_rperson_0:ACode:=(.seq (.reg none [oS 2 (.mv (.c (.bool true)))]) .ret)
def c_rperson:ACode:=(.seq (.reg none [oS 1 (.box 25 4 (.t 0)),oS 2 (.mv (.c (.bool false)))]) (.seq (.seq (.reg none [oS 4 (.fa 0 (.t 1)),oS 5 (.ld (.one (.str [])) (.t 4)),oS 6 (.call 57 [(.t 5),(.c (.str [60,62,10]))]),oS 7 (.mv (.t 6)),oH 8 (.fa 1 (.t 1)) 7,oH 9 (.ld (.one (.str [])) (.t 8)) 7,oH 10 (.call 57 [(.t 9),(.c (.str [60,62,10]))]) 7,oS 11 (.pick (.t 7) (.c (.bool true)) (.t 10)),oS 12 (.mv (.t 11)),oH 13 (.fa 2 (.t 1)) 12,oH 14 (.ld (.one (.int .i64 0)) (.t 13)) 12,oH 15 (.bin .lss (.t 14) (.c (.int .i64 0))) 12,oS 16 (.pick (.t 12) (.c (.bool true)) (.t 15)),oS 17 (.mv (.t 16)),oH 18 (.fa 2 (.t 1)) 17,oH 19 (.ld (.one (.int .i64 0)) (.t 18)) 17,oH 20 (.bin .geq (.t 19) (.c (.int .i64 4611686018427387904))) 17,oS 21 (.pick (.t 17) (.c (.bool true)) (.t 20)),oS 22 (.mv (.t 21)),oH 23 (.fa 3 (.t 1)) 22,oH 24 (.ld (.one (.str [])) (.t 23)) 22,oH 25 (.len none true (.t 24)) 22,oH 26 (.bin .neq (.t 25) (.c (.int .i64 5))) 22,oS 27 (.pick (.t 22) (.c (.bool true)) (.t 26)),oS 28 (.mv (.t 27)),oH 29 (.fa 3 (.t 1)) 28,oH 30 (.ld (.one (.str [])) (.t 29)) 28,oH 31 (.idxS (.t 30) (.c (.int .i64 0))) 28,oH 32 (.bin .neq (.t 31) (.c (.int .u8 43))) 28,oH 33 (.mv (.t 32)) 28,oG 34 (.fa 3 (.t 1)) 33,oG 35 (.ld (.one (.str [])) (.t 34)) 33,oG 36 (.idxS (.t 35) (.c (.int .i64 0))) 33,oG 37 (.bin .neq (.t 36) (.c (.int .u8 45))) 33,oH 38 (.pick (.t 33) (.t 37) (.c (.bool false))) 28,oS 39 (.pick (.t 28) (.c (.bool true)) (.t 38))]) (.cond (.t 39) (.seq (.reg none [oS 2 (.mv (.c (.bool false)))]) .ret) .skip)) (.seq (.seq (.reg none [oS 3 (.mv (.c (.int .i64 1)))]) (.block 0 (.loop b_rperson_0))) t_rperson_0)))
def r_rperson:List ARes:=[(.t 2)]
theorem s_rperson:slimF Tryz.prog Tryz.f33=some (c_rperson,r_rperson):=by kernel_rfl
def c_rtext:ACode:=(.seq (.reg none [oS 1 (.box 25 4 (.t 0)),oS 2 (.mv (.c (.str [])))]) (.seq (.reg (some [(0,false),(1,false),(2,false),(3,false),(4,false),(5,false),(6,false),(7,false),(8,false),(9,false),(10,false),(11,false),(9,false),(9,false),(14,true),(15,true)]) [oS 3 (.fa 0 (.t 1)),oS 4 (.ld (.one (.str [])) (.t 3)),oS 5 (.bin .add (.t 4) (.c (.str [32,60]))),oS 6 (.fa 1 (.t 1)),oS 7 (.ld (.one (.str [])) (.t 6)),oS 8 (.bin .add (.t 5) (.t 7)),oS 9 (.bin .add (.t 8) (.c (.str [62,32]))),oS 10 (.fa 2 (.t 1)),oS 11 (.ld (.one (.int .i64 0)) (.t 10)),oS 12 (.call 44 [(.t 11)]),oS 13 (.bin .add (.t 9) (.t 12)),oS 14 (.bin .add (.t 13) (.c (.str [32]))),oS 15 (.fa 3 (.t 1)),oS 16 (.ld (.one (.str [])) (.t 15)),oS 17 (.bin .add (.t 14) (.t 16)),oS 2 (.mv (.t 17))]) .ret))
def r_rtext:List ARes:=[(.t 2)]
theorem s_rtext:slimF Tryz.prog Tryz.f42=some (c_rtext,r_rtext):=by kernel_rfl
def c_rguess:ACode:=(.seq (.reg none [oS 2 (.new 25 [(1,(.str [])),(1,(.str [])),(1,(.int .i64 0)),(1,(.str []))])]) (.seq (.reg none [oS 11 (.mv (.t 0)),oS 12 (.call 73 [(.t 11),(.c (.int .u8 60))]),oS 10 (.mv (.t 12)),oS 13 (.ext (.t 10) 0),oS 14 (.ext (.t 10) 1),oS 3 (.mv (.t 13)),oS 4 (.mv (.t 14))]) (.seq (.reg none [oS 16 (.mv (.t 4)),oS 17 (.call 73 [(.t 16),(.c (.int .u8 62))]),oS 15 (.mv (.t 17)),oS 18 (.ext (.t 15) 0),oS 19 (.ext (.t 15) 1),oS 5 (.mv (.t 18)),oS 4 (.mv (.t 19))]) (.seq (.seq (.reg none [oS 20 (.mv (.t 3)),oS 21 (.len none true (.t 20)),oS 22 (.bin .gtr (.t 21) (.c (.int .i64 0)))]) (.cond (.t 22) (.reg none [oS 23 (.mv (.t 3)),oS 24 (.mv (.t 3)),oS 25 (.len none true (.t 24)),oS 26 (.bin .sub (.t 25) (.c (.int .i64 1))),oS 27 (.slS (.t 23) none (some (.t 26))),oS 3 (.mv (.t 27))]) .skip)) (.seq (.reg none [oS 28 (.mv (.t 4)),oS 29 (.call 71 [(.t 28),(.c (.str [32]))]),oS 4 (.mv (.t 29))]) (.seq (.reg none [oS 31 (.mv (.t 4)),oS 32 (.call 73 [(.t 31),(.c (.int .u8 32))]),oS 30 (.mv (.t 32)),oS 33 (.ext (.t 30) 0),oS 34 (.ext (.t 30) 1),oS 6 (.mv (.t 33)),oS 7 (.mv (.t 34))]) (.seq (.reg none [oS 36 (.mv (.t 6)),oS 37 (.call 86 [(.t 36)]),oS 35 (.mv (.t 37)),oS 38 (.ext (.t 35) 0),oS 39 (.ext (.t 35) 1),oS 8 (.mv (.t 38)),oS 9 (.mv (.t 39))]) (.seq (.reg none [oS 40 (.mv (.t 3)),oS 41 (.mv (.t 5)),oS 42 (.mv (.t 8)),oS 43 (.mv (.t 7)),oS 44 (.build [(1,(.str [])),(1,(.str [])),(1,(.int .i64 0)),(1,(.str []))] [(0,(1,(.t 40))),(1,(1,(.t 41))),(2,(1,(.t 42))),(3,(1,(.t 43)))]),oN (.st (.st 4) (.t 2) (.t 44))]) .ret))))))))
def r_rguess:List ARes:=[(.c 2 (.st 4))]
theorem s_rguess:slimF Tryz.prog Tryz.f72=some (c_rguess,r_rguess):=by kernel_rfl
def b_rpar_0:ACode:=(.seq (.seq (.reg none [oS 31 (.mv (.t 6)),oS 32 (.mv (.t 4)),oS 33 (.len none false (.t 32)),oS 34 (.bin .lss (.t 31) (.t 33)),oS 35 (.mv (.t 34)),oG 36 (.mv (.t 4)) 35,oG 37 (.mv (.t 6)) 35,oG 38 (.ia 1 (.str []) (.t 36) (.t 37)) 35,oG 39 (.ld (.one (.str [])) (.t 38)) 35,oG 40 (.call 71 [(.t 39),(.c (.str [112,97,114,101,110,116,32]))]) 35,oG 41 (.bin .neq (.t 40) (.c (.str []))) 35,oS 42 (.pick (.t 35) (.t 41) (.c (.bool false)))]) (.cond (.t 42) .skip (.exit 0))) (.block 1 (.seq (.reg none [oS 44 (.mv (.t 4)),oS 45 (.mv (.t 6)),oS 46 (.ia 1 (.str []) (.t 44) (.t 45)),oS 47 (.ld (.one (.str [])) (.t 46)),oS 48 (.call 71 [(.t 47),(.c (.str [112,97,114,101,110,116,32]))]),oS 49 (.call 70 [(.t 48)]),oS 43 (.mv (.t 49)),oS 50 (.ext (.t 43) 0),oS 51 (.ext (.t 43) 1),oS 7 (.new 22 [(20,(.blob (List.replicate 20 (.int .u8 0))))]),oN (.st (.arr 20) (.t 7) (.t 50)),oS 8 (.mv (.t 51))]) (.seq (.reg none [oS 52 (.fa 20 (.t 5)),oS 53 (.ld (.one (.con (.slice none 0 0))) (.t 52)),oS 54 (.ld (.arr 20) (.t 7)),oS 55 (.buildSl 22 20 [(.t 54)]),oS 56 (.app 22 20 20 (.t 53) (.t 55)),oS 57 (.fa 20 (.t 5)),oN (.st (.one (.con (.slice none 0 0))) (.t 57) (.t 56))]) (.reg none [oS 58 (.mv (.t 6)),oS 59 (.bin .add (.t 58) (.c (.int .i64 1))),oS 6 (.mv (.t 59))])))))
def b_rpar_1:ACode:=(.seq (.seq (.reg none [oS 86 (.mv (.t 6)),oS 87 (.mv (.t 4)),oS 88 (.len none false (.t 87)),oS 89 (.bin .lss (.t 86) (.t 88)),oS 90 (.mv (.t 89)),oG 91 (.mv (.t 4)) 90,oG 92 (.mv (.t 6)) 90,oG 93 (.ia 1 (.str []) (.t 91) (.t 92)) 90,oG 94 (.ld (.one (.str [])) (.t 93)) 90,oG 95 (.bin .neq (.t 94) (.c (.str []))) 90,oS 96 (.pick (.t 90) (.t 95) (.c (.bool false)))]) (.cond (.t 96) .skip (.exit 2))) (.block 3 (.seq (.reg none [oS 97 (.fa 29 (.t 5)),oS 98 (.ld (.one (.con (.slice none 0 0))) (.t 97)),oS 99 (.len none false (.t 98)),oS 100 (.bin .sub (.t 99) (.c (.int .i64 1))),oS 9 (.mv (.t 100))]) (.seq (.seq (.reg none [oS 101 (.mv (.t 4)),oS 102 (.mv (.t 6)),oS 103 (.ia 1 (.str []) (.t 101) (.t 102)),oS 104 (.ld (.one (.str [])) (.t 103)),oS 105 (.idxS (.t 104) (.c (.int .i64 0))),oS 106 (.bin .eql (.t 105) (.c (.int .u8 32))),oS 107 (.mv (.t 106)),oG 108 (.mv (.t 9)) 107,oG 109 (.bin .geq (.t 108) (.c (.int .i64 0))) 107,oS 110 (.pick (.t 107) (.t 109) (.c (.bool false)))]) (.cond (.t 110) (.reg (some [(0,false),(1,false),(2,false),(3,false),(4,false),(5,false),(6,false),(7,false),(8,false),(9,false),(10,false),(11,false),(12,false),(13,false),(14,false),(15,false),(16,true),(17,true),(18,true)]) [oS 111 (.fa 29 (.t 5)),oS 112 (.ld (.one (.con (.slice none 0 0))) (.t 111)),oS 113 (.mv (.t 9)),oS 114 (.fa 29 (.t 5)),oS 115 (.ld (.one (.con (.slice none 0 0))) (.t 114)),oS 116 (.mv (.t 9)),oS 117 (.ia 2 (.agg [(1,(.str [])),(1,(.str []))]) (.t 115) (.t 116)),oS 118 (.fa 1 (.t 117)),oS 119 (.ld (.one (.str [])) (.t 118)),oS 120 (.bin .add (.t 119) (.c (.str [10]))),oS 121 (.mv (.t 4)),oS 122 (.mv (.t 6)),oS 123 (.ia 1 (.str []) (.t 121) (.t 122)),oS 124 (.ld (.one (.str [])) (.t 123)),oS 125 (.slS (.t 124) (some (.c (.int .i64 1))) none),oS 126 (.bin .add (.t 120) (.t 125)),oS 127 (.ia 2 (.agg [(1,(.str [])),(1,(.str []))]) (.t 112) (.t 113)),oS 128 (.fa 1 (.t 127)),oN (.st (.one (.str [])) (.t 128) (.t 126))]) (.seq (.reg none [oS 130 (.mv (.t 4)),oS 131 (.mv (.t 6)),oS 132 (.ia 1 (.str []) (.t 130) (.t 131)),oS 133 (.ld (.one (.str [])) (.t 132)),oS 134 (.call 73 [(.t 133),(.c (.int .u8 32))]),oS 129 (.mv (.t 134)),oS 135 (.ext (.t 129) 0),oS 136 (.ext (.t 129) 1),oS 10 (.mv (.t 135)),oS 11 (.mv (.t 136))]) (.reg none [oS 137 (.fa 29 (.t 5)),oS 138 (.ld (.one (.con (.slice none 0 0))) (.t 137)),oS 139 (.mv (.t 10)),oS 140 (.mv (.t 11)),oS 141 (.build [(1,(.str [])),(1,(.str []))] [(0,(1,(.t 139))),(1,(1,(.t 140)))]),oS 142 (.buildSl 65 2 [(.t 141)]),oS 143 (.app 65 2 32 (.t 138) (.t 142)),oS 144 (.fa 29 (.t 5)),oN (.st (.one (.con (.slice none 0 0))) (.t 144) (.t 143))])))) (.reg none [oS 145 (.mv (.t 6)),oS 146 (.bin .add (.t 145) (.c (.int .i64 1))),oS 6 (.mv (.t 146))])))))
def b_rpar_2:ACode:=(.seq (.seq (.reg none [oS 149 (.mv (.t 12)),oS 150 (.mv (.t 4)),oS 151 (.len none false (.t 150)),oS 152 (.bin .lss (.t 149) (.t 151))]) (.cond (.t 152) .skip (.exit 4))) (.seq (.block 5 (.seq (.seq (.reg none [oS 155 (.mv (.t 12)),oS 156 (.mv (.t 6)),oS 157 (.bin .add (.t 156) (.c (.int .i64 1))),oS 158 (.bin .gtr (.t 155) (.t 157))]) (.cond (.t 158) (.reg none [oS 159 (.fa 30 (.t 5)),oS 160 (.ld (.one (.str [])) (.t 159)),oS 161 (.bin .add (.t 160) (.c (.str [10]))),oS 162 (.fa 30 (.t 5)),oN (.st (.one (.str [])) (.t 162) (.t 161))]) .skip)) (.reg (some [(0,false),(1,false),(2,false),(3,false),(4,false),(5,false),(6,true),(7,true),(8,true)]) [oS 163 (.fa 30 (.t 5)),oS 164 (.ld (.one (.str [])) (.t 163)),oS 165 (.mv (.t 4)),oS 166 (.mv (.t 12)),oS 167 (.ia 1 (.str []) (.t 165) (.t 166)),oS 168 (.ld (.one (.str [])) (.t 167)),oS 169 (.bin .add (.t 164) (.t 168)),oS 170 (.fa 30 (.t 5)),oN (.st (.one (.str [])) (.t 170) (.t 169))]))) (.reg none [oS 153 (.mv (.t 12)),oS 154 (.bin .add (.t 153) (.c (.int .i64 1))),oS 12 (.mv (.t 154))])))
def t_rpar_0:ACode:=(.seq (.seq (.reg none [oS 171 (.ld (.st 31) (.t 5)),oS 172 (.call 12 [(.t 171)]),oS 173 (.un .not (.t 172)),oS 174 (.mv (.t 173)),oH 175 (.ld (.st 31) (.t 5)) 174,oH 176 (.call 24 [(.t 175)]) 174,oH 177 (.mv (.t 0)) 174,oH 178 (.bin .neq (.t 176) (.t 177)) 174,oS 179 (.pick (.t 174) (.c (.bool true)) (.t 178))]) (.cond (.t 179) (.seq (.reg none [oS 180 (.build [(20,(.blob (List.replicate 20 (.int .u8 0)))),(1,(.con (.slice none 0 0))),(1,(.str [])),(1,(.str [])),(1,(.int .i64 0)),(1,(.str [])),(1,(.str [])),(1,(.str [])),(1,(.int .i64 0)),(1,(.str [])),(1,(.con (.slice none 0 0))),(1,(.str []))] []),oN (.st (.st 31) (.t 2) (.t 180)),oS 3 (.mv (.c (.bool false)))]) .ret) .skip)) (.seq (.reg none [oS 181 (.ld (.st 31) (.t 5)),oN (.st (.st 31) (.t 2) (.t 181)),oS 3 (.mv (.c (.bool true)))]) .ret))
def t_rpar_1:ACode:=(.seq (.seq (.reg none [oS 147 (.mv (.t 6)),oS 148 (.bin .add (.t 147) (.c (.int .i64 1))),oS 12 (.mv (.t 148))]) (.block 4 (.loop b_rpar_2))) t_rpar_0)
def k_rpar_t2_B2:ACode:=(.seq (.block 2 (.loop b_rpar_1)) t_rpar_1)
def t_rpar_2:ACode:=(.seq (.seq (.reg none [oS 60 (.mv (.t 6)),oS 61 (.mv (.t 4)),oS 62 (.len none false (.t 61)),oS 63 (.bin .lss (.t 60) (.t 62))]) (.cond (.t 63) (.seq (.reg none [oS 64 (.mv (.t 4)),oS 65 (.mv (.t 6)),oS 66 (.ia 1 (.str []) (.t 64) (.t 65)),oS 67 (.ld (.one (.str [])) (.t 66)),oS 68 (.call 71 [(.t 67),(.c (.str [97,117,116,104,111,114,32]))]),oS 69 (.call 72 [(.t 68)]),oS 70 (.fa 21 (.t 5)),oN (.st (.st 4) (.t 70) (.t 69))]) (.reg none [oS 71 (.mv (.t 6)),oS 72 (.bin .add (.t 71) (.c (.int .i64 1))),oS 6 (.mv (.t 72))])) .skip)) (.seq (.seq (.reg none [oS 73 (.mv (.t 6)),oS 74 (.mv (.t 4)),oS 75 (.len none false (.t 74)),oS 76 (.bin .lss (.t 73) (.t 75))]) (.cond (.t 76) (.seq (.reg none [oS 77 (.mv (.t 4)),oS 78 (.mv (.t 6)),oS 79 (.ia 1 (.str []) (.t 77) (.t 78)),oS 80 (.ld (.one (.str [])) (.t 79)),oS 81 (.call 71 [(.t 80),(.c (.str [99,111,109,109,105,116,116,101,114,32]))]),oS 82 (.call 72 [(.t 81)]),oS 83 (.fa 25 (.t 5)),oN (.st (.st 4) (.t 83) (.t 82))]) (.reg none [oS 84 (.mv (.t 6)),oS 85 (.bin .add (.t 84) (.c (.int .i64 1))),oS 6 (.mv (.t 85))])) .skip)) k_rpar_t2_B2))
def c_rpar:ACode:=(.seq (.reg none [oS 2 (.new 28 [(20,(.blob (List.replicate 20 (.int .u8 0)))),(1,(.con (.slice none 0 0))),(1,(.str [])),(1,(.str [])),(1,(.int .i64 0)),(1,(.str [])),(1,(.str [])),(1,(.str [])),(1,(.int .i64 0)),(1,(.str [])),(1,(.con (.slice none 0 0))),(1,(.str []))]),oS 3 (.mv (.c (.bool false)))]) (.seq (.reg none [oS 13 (.mv (.t 0)),oS 14 (.call 69 [(.t 13)]),oS 4 (.mv (.t 14))]) (.seq (.reg none [oS 5 (.new 28 [(20,(.blob (List.replicate 20 (.int .u8 0)))),(1,(.con (.slice none 0 0))),(1,(.str [])),(1,(.str [])),(1,(.int .i64 0)),(1,(.str [])),(1,(.str [])),(1,(.str [])),(1,(.int .i64 0)),(1,(.str [])),(1,(.con (.slice none 0 0))),(1,(.str []))])]) (.seq (.reg none [oS 6 (.mv (.c (.int .i64 0)))]) (.seq (.seq (.reg none [oS 15 (.mv (.t 6)),oS 16 (.mv (.t 4)),oS 17 (.len none false (.t 16)),oS 18 (.bin .lss (.t 15) (.t 17))]) (.cond (.t 18) (.seq (.reg none [oS 20 (.mv (.t 4)),oS 21 (.mv (.t 6)),oS 22 (.ia 1 (.str []) (.t 20) (.t 21)),oS 23 (.ld (.one (.str [])) (.t 22)),oS 24 (.call 71 [(.t 23),(.c (.str [116,114,101,101,32]))]),oS 25 (.call 70 [(.t 24)]),oS 19 (.mv (.t 25)),oS 26 (.ext (.t 19) 0),oS 27 (.ext (.t 19) 1),oS 28 (.fa 0 (.t 5)),oN (.st (.arr 20) (.t 28) (.t 26))]) (.reg none [oS 29 (.mv (.t 6)),oS 30 (.bin .add (.t 29) (.c (.int .i64 1))),oS 6 (.mv (.t 30))])) .skip)) (.seq (.block 0 (.loop b_rpar_0)) t_rpar_2))))))
def r_rpar:List ARes:=[(.c 2 (.st 31)),(.t 3)]
theorem s_rpar:slimF Tryz.prog Tryz.f40=some (c_rpar,r_rpar):=by kernel_rfl
def c_rextra:ACode:=(.seq (.reg none [oS 1 (.box 65 2 (.t 0)),oS 2 (.mv (.c (.bool false)))]) (.seq (.reg none [oS 3 (.fa 0 (.t 1)),oS 4 (.ld (.one (.str [])) (.t 3)),oS 5 (.bin .neq (.t 4) (.c (.str []))),oS 6 (.mv (.t 5)),oG 7 (.fa 0 (.t 1)) 6,oG 8 (.ld (.one (.str [])) (.t 7)) 6,oG 9 (.call 57 [(.t 8),(.c (.str [32,10]))]) 6,oG 10 (.un .not (.t 9)) 6,oS 11 (.pick (.t 6) (.t 10) (.c (.bool false))),oS 12 (.mv (.t 11)),oG 13 (.fa 0 (.t 1)) 12,oG 14 (.ld (.one (.str [])) (.t 13)) 12,oG 15 (.bin .neq (.t 14) (.c (.str [116,114,101,101]))) 12,oS 16 (.pick (.t 12) (.t 15) (.c (.bool false))),oS 17 (.mv (.t 16)),oG 18 (.fa 0 (.t 1)) 17,oG 19 (.ld (.one (.str [])) (.t 18)) 17,oG 20 (.bin .neq (.t 19) (.c (.str [112,97,114,101,110,116]))) 17,oS 21 (.pick (.t 17) (.t 20) (.c (.bool false))),oS 22 (.mv (.t 21)),oG 23 (.fa 0 (.t 1)) 22,oG 24 (.ld (.one (.str [])) (.t 23)) 22,oG 25 (.bin .neq (.t 24) (.c (.str [97,117,116,104,111,114]))) 22,oS 26 (.pick (.t 22) (.t 25) (.c (.bool false))),oS 27 (.mv (.t 26)),oG 28 (.fa 0 (.t 1)) 27,oG 29 (.ld (.one (.str [])) (.t 28)) 27,oG 30 (.bin .neq (.t 29) (.c (.str [99,111,109,109,105,116,116,101,114]))) 27,oS 31 (.pick (.t 27) (.t 30) (.c (.bool false))),oS 2 (.mv (.t 31))]) .ret))
def r_rextra:List ARes:=[(.t 2)]
theorem s_rextra:slimF Tryz.prog Tryz.f32=some (c_rextra,r_rextra):=by kernel_rfl
def b_rvalue_0:ACode:=(.seq (.seq (.reg none [oS 5 (.mv (.t 4)),oS 6 (.mv (.t 0)),oS 7 (.len none true (.t 6)),oS 8 (.bin .lss (.t 5) (.t 7))]) (.cond (.t 8) .skip (.exit 0))) (.seq (.block 1 (.seq (.reg none [oS 11 (.mv (.t 3)),oS 12 (.mv (.t 0)),oS 13 (.mv (.t 4)),oS 14 (.idxS (.t 12) (.t 13)),oS 15 (.buildSl 5 1 [(.t 14)]),oS 16 (.app 5 1 1 (.t 11) (.t 15)),oS 3 (.mv (.t 16))]) (.seq (.reg none [oS 17 (.mv (.t 0)),oS 18 (.mv (.t 4)),oS 19 (.idxS (.t 17) (.t 18)),oS 20 (.bin .eql (.t 19) (.c (.int .u8 10)))]) (.cond (.t 20) (.reg none [oS 21 (.mv (.t 3)),oS 22 (.buildSl 5 1 [(.c (.int .u8 32))]),oS 23 (.app 5 1 1 (.t 21) (.t 22)),oS 3 (.mv (.t 23))]) .skip)))) (.reg none [oS 9 (.mv (.t 4)),oS 10 (.bin .add (.t 9) (.c (.int .i64 1))),oS 4 (.mv (.t 10))])))
def t_rvalue_0:ACode:=(.seq (.reg none [oS 24 (.mv (.t 3)),oS 25 (.toStr (.t 24)),oS 2 (.mv (.t 25))]) .ret)
def c_rvalue:ACode:=(.seq (.reg none [oS 2 (.mv (.c (.str [])))]) (.seq (.reg none [oS 3 (.mv (.c (.con (.slice none 0 0))))]) (.seq (.seq (.reg none [oS 4 (.mv (.c (.int .i64 0)))]) (.block 0 (.loop b_rvalue_0))) t_rvalue_0)))
def r_rvalue:List ARes:=[(.t 2)]
theorem s_rvalue:slimF Tryz.prog Tryz.f43=some (c_rvalue,r_rvalue):=by kernel_rfl
def b_rhas_0:ACode:=(.seq (.seq (.reg none [oS 13 (.mv (.t 6)),oS 14 (.mv (.t 1)),oS 15 (.len none true (.t 14)),oS 16 (.bin .lss (.t 13) (.t 15))]) (.cond (.t 16) .skip (.exit 2))) (.seq (.block 3 (.seq (.reg (some [(0,false),(1,false),(2,false),(3,false),(4,false),(5,false),(6,true)]) [oS 19 (.mv (.t 0)),oS 20 (.mv (.t 5)),oS 21 (.idxS (.t 19) (.t 20)),oS 22 (.mv (.t 1)),oS 23 (.mv (.t 6)),oS 24 (.idxS (.t 22) (.t 23)),oS 25 (.bin .eql (.t 21) (.t 24))]) (.cond (.t 25) (.seq (.reg none [oS 4 (.mv (.c (.bool true)))]) .ret) .skip))) (.reg none [oS 17 (.mv (.t 6)),oS 18 (.bin .add (.t 17) (.c (.int .i64 1))),oS 6 (.mv (.t 18))])))
def t_rhas_0:ACode:=(.reg none [oS 11 (.mv (.t 5)),oS 12 (.bin .add (.t 11) (.c (.int .i64 1))),oS 5 (.mv (.t 12))])
def b_rhas_1:ACode:=(.seq (.seq (.reg none [oS 7 (.mv (.t 5)),oS 8 (.mv (.t 0)),oS 9 (.len none true (.t 8)),oS 10 (.bin .lss (.t 7) (.t 9))]) (.cond (.t 10) .skip (.exit 0))) (.seq (.block 1 (.seq (.reg none [oS 6 (.mv (.c (.int .i64 0)))]) (.block 2 (.loop b_rhas_0)))) t_rhas_0))
def t_rhas_1:ACode:=(.seq (.reg none [oS 4 (.mv (.c (.bool false)))]) .ret)
def c_rhas:ACode:=(.seq (.reg none [oS 4 (.mv (.c (.bool false)))]) (.seq (.seq (.reg none [oS 5 (.mv (.c (.int .i64 0)))]) (.block 0 (.loop b_rhas_1))) t_rhas_1))
def r_rhas:List ARes:=[(.t 4)]
theorem s_rhas:slimF Tryz.prog Tryz.f57=some (c_rhas,r_rhas):=by kernel_rfl
def b_rcut_0:ACode:=(.seq (.seq (.reg none [oS 7 (.mv (.t 6)),oS 8 (.mv (.t 0)),oS 9 (.len none true (.t 8)),oS 10 (.bin .lss (.t 7) (.t 9))]) (.cond (.t 10) .skip (.exit 0))) (.seq (.block 1 (.seq (.reg none [oS 13 (.mv (.t 0)),oS 14 (.mv (.t 6)),oS 15 (.idxS (.t 13) (.t 14)),oS 16 (.mv (.t 1)),oS 17 (.bin .eql (.t 15) (.t 16))]) (.cond (.t 17) (.seq (.reg (some [(0,false),(1,false),(2,false),(3,false),(4,false),(5,false),(6,false),(7,false),(8,true)]) [oS 18 (.mv (.t 0)),oS 19 (.mv (.t 6)),oS 20 (.slS (.t 18) none (some (.t 19))),oS 21 (.mv (.t 0)),oS 22 (.mv (.t 6)),oS 23 (.bin .add (.t 22) (.c (.int .i64 1))),oS 24 (.slS (.t 21) (some (.t 23)) none),oS 4 (.mv (.t 20)),oS 5 (.mv (.t 24))]) .ret) .skip))) (.reg none [oS 11 (.mv (.t 6)),oS 12 (.bin .add (.t 11) (.c (.int .i64 1))),oS 6 (.mv (.t 12))])))
def t_rcut_0:ACode:=(.seq (.reg none [oS 25 (.mv (.t 0)),oS 4 (.mv (.t 25)),oS 5 (.mv (.c (.str [])))]) .ret)
def c_rcut:ACode:=(.seq (.reg none [oS 4 (.mv (.c (.str []))),oS 5 (.mv (.c (.str [])))]) (.seq (.seq (.reg none [oS 6 (.mv (.c (.int .i64 0)))]) (.block 0 (.loop b_rcut_0))) t_rcut_0))
def r_rcut:List ARes:=[(.t 4),(.t 5)]
theorem s_rcut:slimF Tryz.prog Tryz.f73=some (c_rcut,r_rcut):=by kernel_rfl
def c_rfront:ACode:=(.seq (.reg none [oS 4 (.mv (.c (.str [])))]) (.seq (.seq (.reg none [oS 5 (.mv (.t 0)),oS 6 (.len none true (.t 5)),oS 7 (.mv (.t 1)),oS 8 (.len none true (.t 7)),oS 9 (.bin .geq (.t 6) (.t 8)),oS 10 (.mv (.t 9)),oG 11 (.mv (.t 0)) 10,oG 12 (.mv (.t 1)) 10,oG 13 (.len none true (.t 12)) 10,oG 14 (.slS (.t 11) none (some (.t 13))) 10,oG 15 (.mv (.t 1)) 10,oG 16 (.bin .eql (.t 14) (.t 15)) 10,oS 17 (.pick (.t 10) (.t 16) (.c (.bool false)))]) (.cond (.t 17) (.seq (.reg none [oS 18 (.mv (.t 0)),oS 19 (.mv (.t 1)),oS 20 (.len none true (.t 19)),oS 21 (.slS (.t 18) (some (.t 20)) none),oS 4 (.mv (.t 21))]) .ret) .skip)) (.seq (.reg none [oS 4 (.mv (.c (.str [])))]) .ret)))
def r_rfront:List ARes:=[(.t 4)]
theorem s_rfront:slimF Tryz.prog Tryz.f71=some (c_rfront,r_rfront):=by kernel_rfl
def b_rlines_0:ACode:=(.seq (.seq (.reg none [oS 6 (.mv (.t 5)),oS 7 (.mv (.t 0)),oS 8 (.len none true (.t 7)),oS 9 (.bin .lss (.t 6) (.t 8))]) (.cond (.t 9) .skip (.exit 0))) (.seq (.block 1 (.seq (.seq (.reg none [oS 12 (.mv (.t 0)),oS 13 (.mv (.t 5)),oS 14 (.idxS (.t 12) (.t 13)),oS 15 (.bin .eql (.t 14) (.c (.int .u8 10)))]) (.cond (.t 15) (.seq (.reg none [oS 16 (.mv (.t 3)),oS 17 (.mv (.t 4)),oS 18 (.buildSl 9 1 [(.t 17)]),oS 19 (.app 9 1 16 (.t 16) (.t 18)),oS 3 (.mv (.t 19))]) (.seq (.reg none [oS 4 (.mv (.c (.str [])))]) (.exit 1))) .skip)) (.reg none [oS 20 (.mv (.t 4)),oS 21 (.mv (.t 0)),oS 22 (.mv (.t 5)),oS 23 (.mv (.t 5)),oS 24 (.bin .add (.t 23) (.c (.int .i64 1))),oS 25 (.slS (.t 21) (some (.t 22)) (some (.t 24))),oS 26 (.bin .add (.t 20) (.t 25)),oS 4 (.mv (.t 26))]))) (.reg none [oS 10 (.mv (.t 5)),oS 11 (.bin .add (.t 10) (.c (.int .i64 1))),oS 5 (.mv (.t 11))])))
def t_rlines_0:ACode:=(.seq (.reg none [oS 27 (.mv (.t 3)),oS 28 (.mv (.t 4)),oS 29 (.buildSl 9 1 [(.t 28)]),oS 30 (.app 9 1 16 (.t 27) (.t 29)),oS 2 (.mv (.t 30))]) .ret)
def c_rlines:ACode:=(.seq (.reg none [oS 2 (.mv (.c (.con (.slice none 0 0))))]) (.seq (.reg none [oS 3 (.mv (.c (.con (.slice none 0 0))))]) (.seq (.reg none [oS 4 (.mv (.c (.str [])))]) (.seq (.seq (.reg none [oS 5 (.mv (.c (.int .i64 0)))]) (.block 0 (.loop b_rlines_0))) t_rlines_0))))
def r_rlines:List ARes:=[(.t 2)]
theorem s_rlines:slimF Tryz.prog Tryz.f69=some (c_rlines,r_rlines):=by kernel_rfl
def sameW (a b:WhoL):Bool:=decide (a.name=b.name) && (decide (a.mail=b.mail) && (decide (a.time=b.time) && (decide (a.zone=b.zone) && true)))
theorem sameW_iff {a b:WhoL}:sameW a b=true↔a=b:=by
 cases a; cases b; simp [sameW]
def sameC (c d:ComL):Bool:=decide (c.tree=d.tree) && sameW c.author d.author && sameW c.committer d.committer && decide (c.message=d.message) && decide (c.parents=d.parents) && decide (c.extras=d.extras)
theorem sameC_iff {c d:ComL}:sameC c d=true↔c=d:=by
 cases c; cases d; simp [sameC,sameW_iff]; constructor
 ·rintro ⟨⟨⟨⟨⟨rfl,rfl⟩,rfl⟩,rfl⟩,rfl⟩,rfl⟩; simp
 ·rintro ⟨rfl,rfl,rfl,rfl,rfl,rfl⟩; simp
def rsameS:Spec:=fun xs hp=>match xs,hp with
  | [.agg [(20, .blob t), (1, .sl kq ps), (1, .str an), (1, .str am), (1, .int .i64 at'), (1, .str az), (1, .str cn), (1, .str cm), (1, .int .i64 ct), (1, .str cz), (1, .sl ke es), (1, .str m)],
     .agg [(20,.blob t2),(1,.sl kq2 ps2),(1,.str an2),(1,.str am2),(1,.int .i64 at2),(1,.str az2),(1,.str cn2),(1,.str cm2),(1,.int .i64 ct2),(1,.str cz2),(1,.sl ke2 es2),(1,.str m2)]],[] =>
    some ⟨.bool (sameC ⟨unV t,ps.map unId,⟨an,am,at',az⟩,⟨cn,cm,ct,cz⟩,es.map unEx,m⟩ ⟨unV t2,ps2.map unId,⟨an2,am2,at2,az2⟩,⟨cn2,cm2,ct2,cz2⟩,es2.map unEx,m2⟩),[],
      (t=(unV t).map U∧ps=(ps.map unId).map idAV∧es=(es.map unEx).map exV∧(kq=20∨ps=[])∧(ke=2∨es=[])∧(unV t).length=20∧(∀ p∈ps.map unId,p.length=20)∧ps.length≤1000000∧es.length≤1000000) ∧
      (t2=(unV t2).map U∧ps2=(ps2.map unId).map idAV∧es2=(es2.map unEx).map exV∧(kq2=20∨ps2=[])∧(ke2=2∨es2=[])∧(unV t2).length=20∧(∀ p∈ps2.map unId,p.length=20)∧ps2.length≤1000000∧es2.length≤1000000)⟩
  | _,_=>none
theorem take_eq_succ {α:Type} {l m:List α} {i:Nat} (h:l.take i=m.take i) (hi:i<l.length) (hj:i<m.length) (e:l[i]=m[i]):l.take (i+1)=m.take (i+1):=by
 rw [List.take_add_one,List.take_add_one,h,List.getElem?_eq_getElem hi,List.getElem?_eq_getElem hj,e]
set_option maxHeartbeats 4000000 in
theorem rsame_ok:FnOk Tryz.prog 17 rsameS:=by
  refine fn_slim2 Tryz.func17 s_rsame (Φ:=phiL []) phi_nil ?_
  intro xs hp r hs hp'
  unfold rsameS at hs
  split at hs
  · injection hs with hs; subst hs
    rename_i t kq ps an am at' az cn cm ct cz ke es m t2 kq2 ps2 an2 am2 at2 az2 cn2 cm2 ct2 cz2 ke2 es2 m2
    obtain ⟨⟨q1,q2,q3,q4,q5,q6,q7,q8,q9⟩,w1,w2,w3,w4,w5,w6,w7,w8,w9⟩:=hp'
    generalize unV t=t at *
    subst q1
    generalize ps.map unId=ps at *
    subst q2
    generalize es.map unEx=es at *
    subst q3
    generalize unV t2=t2 at *
    subst w1
    generalize ps2.map unId=ps2 at *
    subst w2
    generalize es2.map unEx=es2 at *
    subst w3
    rw [List.length_map] at q8 q9 w8 w9
    refine ⟨len_le (by kernel_rfl),?_⟩
    have hsa:(decide (an=an2) && (decide (am=am2) && (decide (at' = at2) && decide (az=az2))))=sameW ⟨an,am,at',az⟩ ⟨an2,am2,at2,az2⟩:=by unfold sameW; simp only [Bool.and_true]
    have hsc:(decide (cn=cn2) && (decide (cm=cm2) && (decide (ct=ct2) && decide (cz=cz2))))=sameW ⟨cn,cm,ct,cz⟩ ⟨cn2,cm2,ct2,cz2⟩:=by unfold sameW; simp only [Bool.and_true]
    unfold sameC
    simp only
    cases h1:decide (t=t2) with
    | false =>
      simp only [c_rsame,r_rsame,unV_U,h1,Bool.false_and,go_sem,reduceDiv,reduceMod,↓reduceIte,reduceAdd]
      exact ⟨q6,w6⟩
    | true =>
    cases h2:sameW ⟨an,am,at',az⟩ ⟨an2,am2,at2,az2⟩ with
    | false =>
      simp only [c_rsame,r_rsame,unV_U,h1,hsa,h2,Bool.false_and,Bool.and_false,go_sem,reduceDiv,reduceMod,↓reduceIte,reduceSub,reduceAdd,reduceLeDiff,reduceCtorEq]
      exact ⟨q6,w6⟩
    | true =>
    cases h3:sameW ⟨cn,cm,ct,cz⟩ ⟨cn2,cm2,ct2,cz2⟩ with
    | false =>
      simp only [c_rsame,r_rsame,unV_U,h1,hsa,hsc,h2,h3,Bool.false_and,Bool.and_false,go_sem,reduceDiv,reduceMod,↓reduceIte,reduceSub,reduceAdd,reduceLeDiff,reduceCtorEq]
      exact ⟨q6,w6⟩
    | true =>
    cases h4:decide (m=m2) with
    | false =>
      simp only [c_rsame,r_rsame,unV_U,h1,hsa,hsc,h2,h3,h4,Bool.false_and,Bool.and_false,go_sem,reduceDiv,reduceMod,↓reduceIte,reduceSub,reduceAdd,reduceLeDiff,reduceCtorEq]
      exact ⟨q6,w6⟩
    | true =>
    by_cases h5:ps.length=ps2.length
    rotate_left
    · have d5 : decide ((ps.length : Int) = (ps2.length : Int)) = false := decide_eq_false (by omega)
      have e:decide (ps=ps2)=false:=decide_eq_false (by rintro rfl; exact h5 rfl)
      simp only [c_rsame,r_rsame,unV_U,h1,hsa,hsc,h2,h3,h4,d5,e,Bool.false_and,Bool.and_false,go_sem,reduceDiv,reduceMod,↓reduceIte,reduceSub,reduceAdd,reduceLeDiff,reduceCtorEq]
      exact ⟨q6,w6⟩
    have d5:decide ((ps.length:Int)=(ps2.length:Int))=true:=decide_eq_true (by omega)
    by_cases h6:es.length=es2.length
    rotate_left
    · have d6 : decide ((es.length : Int) = (es2.length : Int)) = false := decide_eq_false (by omega)
      have e:decide (es=es2)=false:=decide_eq_false (by rintro rfl; exact h6 rfl)
      simp only [c_rsame,r_rsame,unV_U,h1,hsa,hsc,h2,h3,h4,d5,d6,e,Bool.and_false,go_sem,reduceDiv,reduceMod,↓reduceIte,reduceSub,reduceAdd,reduceLeDiff,reduceCtorEq]
      exact ⟨q6,w6⟩
    have d6:decide ((es.length:Int)=(es2.length:Int))=true:=decide_eq_true (by omega)
    simp only [c_rsame,unV_U,h1,hsa,hsc,h2,h3,h4,d5,d6,Bool.true_and,go_sem,reduceDiv,reduceMod,↓reduceIte,reduceSub,reduceAdd,reduceLeDiff,reduceCtorEq]
    refine ⟨⟨q6,w6⟩,?_⟩
    refine loop2P [] [2,3,5] [0,1] (fun i:Nat=>⟨[(2,.ref 0 0 0),(3,.ref 1 0 0),(5,.int .i64 (i:Int))],
      [.cells 28 [(20, .blob (t.map U)), (1, .sl kq (ps.map idAV)), (1, .str an), (1, .str am), (1, .int .i64 at'), (1, .str az), (1, .str cn), (1, .str cm), (1, .int .i64 ct), (1, .str cz), (1, .sl ke (es.map exV)), (1, .str m)],
       .cells 28 [(20,.blob (t2.map U)),(1,.sl kq2 (ps2.map idAV)),(1,.str an2),(1,.str am2),(1,.int .i64 at2),(1,.str az2),(1,.str cn2),(1,.str cm2),(1,.int .i64 ct2),(1,.str cz2),(1,.sl ke2 (es2.map exV)),(1,.str m2)]]⟩)
      (fun i=>i≤ps.length∧ps.take i=ps2.take i) (fun i=>ps.length - i) 0 rfl ⟨Nat.zero_le _,by simp⟩ ⟨rfl,by rfl⟩ (fun i hi R hR=>?_)
    obtain ⟨i1,i2⟩:=hi
    by_cases hil:i<ps.length
    · have c1 : decide ((i : Int) < (ps.length : Int)) = true := decide_eq_true (by omega)
      have hk:kq=20:=q4.resolve_right (by intro h; have:=congrArg List.length h; simp at this; rw [this] at hil; simp at hil)
      have hk2:kq2=20:=w4.resolve_right (by intro h; have:=congrArg List.length h; simp at this; rw [this] at h5; simp at h5; rw [h5] at hil; simp at hil)
      subst hk hk2
      have hget:=getD_map idAV ps [] (.blob (List.replicate 20 (.int .u8 0))) hil
      have hga:ps.getD i []=ps[i]:=by simp [List.getD_eq_getElem?_getD,List.getElem?_eq_getElem hil]
      have hget2:=getD_map idAV ps2 [] (.blob (List.replicate 20 (.int .u8 0))) (show i<ps2.length by omega)
      have hga2:ps2.getD i []=ps2[i]:=by simp [List.getD_eq_getElem?_getD,List.getElem?_eq_getElem (show i<ps2.length by omega)]
      have hl1:=q7 ps[i] (List.getElem_mem _)
      have hl2:=w7 ps2[i] (List.getElem_mem _)
      cases hx:decide (ps[i]=ps2[i]) with
      | false =>
        have e:decide (ps=ps2)=false:=decide_eq_false (by rintro rfl; exact (of_decide_eq_false hx) rfl)
        rw [e,Bool.false_and]
        simp only [b_rsame_0,r_rsame,unV_U,c1,hget,hga,hget2,hga2,idAV,hx,hl1,hl2,Int.toNat_natCast,List.length_map,go_sem,reduceDiv,reduceMod,↓reduceIte,reduceSub,reduceAdd,reduceCtorEq]
        repeat' apply And.intro
        all_goals first | omega | rfl | trivial | skip
      | true =>
        simp only [b_rsame_0,r_rsame,unV_U,c1,hget,hga,hget2,hga2,idAV,hx,hl1,hl2,Int.toNat_natCast,List.length_map,go_sem,reduceDiv,reduceMod,↓reduceIte,reduceSub,reduceAdd,reduceCtorEq]
        refine ⟨⟨by omega,by omega⟩,⟨by omega,by omega⟩,⟨by omega,by omega⟩,hR _ (i+1) ⟨by omega,take_eq_succ i2 hil (by omega) (of_decide_eq_true hx)⟩ (by omega) rfl⟩
    · have c1 : decide ((i : Int) < (ps.length : Int)) = false := decide_eq_false (by omega)
      have e1:ps=ps2:=by
        rw [List.take_of_length_le (by omega),List.take_of_length_le (by omega)] at i2; exact i2
      have e:decide (ps=ps2)=true:=decide_eq_true e1
      rw [e,Bool.true_and]
      simp only [b_rsame_0,t_rsame_1,c1,go_sem,reduceDiv,reduceMod,↓reduceIte,reduceSub,reduceAdd,reduceCtorEq]
      clear hR R
      refine loop2P [] [2,3,6] [0,1] (fun i:Nat=>⟨[(2,.ref 0 0 0),(3,.ref 1 0 0),(6,.int .i64 (i:Int))],
        [.cells 28 [(20, .blob (t.map U)), (1, .sl kq (ps.map idAV)), (1, .str an), (1, .str am), (1, .int .i64 at'), (1, .str az), (1, .str cn), (1, .str cm), (1, .int .i64 ct), (1, .str cz), (1, .sl ke (es.map exV)), (1, .str m)],
         .cells 28 [(20,.blob (t2.map U)),(1,.sl kq2 (ps2.map idAV)),(1,.str an2),(1,.str am2),(1,.int .i64 at2),(1,.str az2),(1,.str cn2),(1,.str cm2),(1,.int .i64 ct2),(1,.str cz2),(1,.sl ke2 (es2.map exV)),(1,.str m2)]]⟩)
        (fun i=>i≤es.length∧es.take i=es2.take i) (fun i=>es.length - i) 0 rfl ⟨Nat.zero_le _,by simp⟩ ⟨rfl,by rfl⟩ (fun j hj R hR=>?_)
      obtain ⟨j1,j2⟩:=hj
      by_cases hjl:j<es.length
      · have c1 : decide ((j : Int) < (es.length : Int)) = true := decide_eq_true (by omega)
        have hk:ke=2:=q5.resolve_right (by intro h; have:=congrArg List.length h; simp at this; rw [this] at hjl; simp at hjl)
        have hk2:ke2=2:=w5.resolve_right (by intro h; have:=congrArg List.length h; simp at this; rw [this] at h6; simp at h6; rw [h6] at hjl; simp at hjl)
        subst hk hk2
        have hget:=getD_map exV es ([],[]) (.agg [(1,(.str [])),(1,(.str []))]) hjl
        have hga:es.getD j ([],[])=es[j]:=by simp [List.getD_eq_getElem?_getD,List.getElem?_eq_getElem hjl]
        have hget2:=getD_map exV es2 ([],[]) (.agg [(1,(.str [])),(1,(.str []))]) (show j<es2.length by omega)
        have hga2:es2.getD j ([],[])=es2[j]:=by simp [List.getD_eq_getElem?_getD,List.getElem?_eq_getElem (show j<es2.length by omega)]
        have hpe:(decide (es[j].1=es2[j].1) && decide (es[j].2=es2[j].2))=decide (es[j]=es2[j]):=by
          rw [Bool.eq_iff_iff]; simp [Prod.ext_iff]
        cases hx:decide (es[j]=es2[j]) with
        | false =>
          have e:decide (es=es2)=false:=decide_eq_false (by rintro rfl; exact (of_decide_eq_false hx) rfl)
          rw [e]
          simp only [b_rsame_1,r_rsame,c1,hget,hga,hget2,hga2,exV,hpe,hx,Int.toNat_natCast,go_sem,reduceDiv,reduceMod,↓reduceIte,reduceSub,reduceAdd,reduceLeDiff,reduceCtorEq]
          repeat' apply And.intro
          all_goals first | omega | rfl | trivial | skip
        | true =>
          simp only [b_rsame_1,r_rsame,c1,hget,hga,hget2,hga2,exV,hpe,hx,Int.toNat_natCast,go_sem,reduceDiv,reduceMod,↓reduceIte,reduceSub,reduceAdd,reduceLeDiff,reduceCtorEq]
          refine ⟨⟨by omega,by omega⟩,⟨by omega,by omega⟩,⟨by omega,by omega⟩,hR _ (j+1) ⟨by omega,take_eq_succ j2 hjl (by omega) (of_decide_eq_true hx)⟩ (by omega) rfl⟩
      · have c1 : decide ((j : Int) < (es.length : Int)) = false := decide_eq_false (by omega)
        have e1:es=es2:=by
          rw [List.take_of_length_le (by omega),List.take_of_length_le (by omega)] at j2; exact j2
        have e:decide (es=es2)=true:=decide_eq_true e1
        rw [e]
        simp only [b_rsame_1,t_rsame_0,r_rsame,c1,go_sem,reduceDiv,reduceMod,↓reduceIte,reduceSub,reduceAdd,reduceLeDiff,reduceCtorEq]
  · cases hs
theorem hasL_iff (p s:List UInt8):hasL p s=true↔∃ x∈s,x∈p:=by unfold hasL; simp
theorem hasL_app (p a b:List UInt8):hasL p (a ++ b)=(hasL p a || hasL p b):=by unfold hasL; rw [List.any_append]
end Go.Proofs.YtgaehhechonegaaGreatDoor
