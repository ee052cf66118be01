import Derived.Test.YtgaehhechonegaaGreatDoorChecked
import Derived.Test.YtgaehhechonegaaGreatDoorWAMS
import Derived.Test.YtgaehhechonegaaGreatDoorWFCom1
import Derived.Lib.MakeNoZero
import Derived.Laws.IdiomCopy
import Derived.Laws.EntriesVeiled
open Nat (reduceDiv reduceMod reduceSub reduceAdd reduceLeDiff reduceEqDiff)
set_option linter.all false
namespace Go.Proofs.YtgaehhechonegaaGreatDoor
open Go.RowKit
def c_talone:ACode:=(.seq (.reg none [oS 1 (.box 34 31 (.t 0)),oS 2 (.new 34 [(20,(.blob (List.replicate 20 (.int .u8 0)))),(1,(.con (.slice none 0 0))),(1,(.str [])),(1,(.str [])),(1,(.int .i64 0)),(1,(.str [])),(1,(.str [])),(1,(.str [])),(1,(.int .i64 0)),(1,(.str [])),(1,(.con (.slice none 0 0))),(1,(.str []))])]) (.seq (.reg none [oS 3 (.buildA (List.replicate 20 (.int .u8 0)) []),oS 4 (.fa 0 (.t 1)),oN (.st (.arr 20) (.t 4) (.t 3)),oS 5 (.fa 20 (.t 1)),oN (.st (.one (.con (.slice none 0 0))) (.t 5) (.c (.con (.slice none 0 0))))]) (.seq (.reg none [oS 6 (.ld (.st 31) (.t 1)),oN (.st (.st 31) (.t 2) (.t 6))]) .ret)))
def r_talone:List ARes:=[(.c 2 (.st 31))]
theorem s_talone:slimF Tryz.prog Tryz.f31=some (c_talone,r_talone):=by kernel_rfl
def c_town:ACode:=(.seq (.reg none [oS 1 (.box 40 26 (.t 0)),oS 2 (.new 40 [(20,(.blob (List.replicate 20 (.int .u8 0)))),(1,(.str [])),(1,(.int .i64 0)),(1,(.int .i64 0)),(1,(.con (.slice none 0 0))),(1,(.con (.slice none 0 0))),(1,(.str []))])]) (.seq (.reg none [oS 3 (.buildA (List.replicate 20 (.int .u8 0)) []),oS 4 (.fa 0 (.t 1)),oN (.st (.arr 20) (.t 4) (.t 3)),oS 5 (.fa 24 (.t 1)),oN (.st (.one (.con (.slice none 0 0))) (.t 5) (.c (.con (.slice none 0 0))))]) (.seq (.reg none [oS 6 (.ld (.st 26) (.t 1)),oN (.st (.st 26) (.t 2) (.t 6))]) .ret)))
def r_town:List ARes:=[(.c 2 (.st 26))]
theorem s_town:slimF Tryz.prog Tryz.f35=some (c_town,r_town):=by kernel_rfl
def c_tsamC:ACode:=(.seq (.reg none [oS 2 (.box 34 31 (.t 0)),oS 3 (.box 34 31 (.t 1)),oS 4 (.mv (.c (.bool false)))]) (.seq (.reg none [oS 5 (.fa 21 (.t 2)),oS 6 (.ld (.st 4) (.t 5)),oS 7 (.fa 21 (.t 3)),oS 8 (.ld (.st 4) (.t 7)),oS 9 (.eqS false [(0,((.one (.str [])),0)),(1,((.one (.str [])),0)),(2,((.one (.int .i64 0)),1)),(3,((.one (.str [])),0))] (.t 6) (.t 8)),oS 10 (.mv (.t 9)),oG 11 (.fa 25 (.t 2)) 10,oG 12 (.ld (.st 4) (.t 11)) 10,oG 13 (.fa 25 (.t 3)) 10,oG 14 (.ld (.st 4) (.t 13)) 10,oG 15 (.eqS false [(0,((.one (.str [])),0)),(1,((.one (.str [])),0)),(2,((.one (.int .i64 0)),1)),(3,((.one (.str [])),0))] (.t 12) (.t 14)) 10,oS 16 (.pick (.t 10) (.t 15) (.c (.bool false))),oS 17 (.mv (.t 16)),oG 18 (.fa 30 (.t 2)) 17,oG 19 (.ld (.one (.str [])) (.t 18)) 17,oG 20 (.fa 30 (.t 3)) 17,oG 21 (.ld (.one (.str [])) (.t 20)) 17,oG 22 (.bin .eql (.t 19) (.t 21)) 17,oS 23 (.pick (.t 17) (.t 22) (.c (.bool false))),oS 24 (.mv (.t 23)),oG 25 (.fa 29 (.t 2)) 24,oG 26 (.ld (.one (.con (.slice none 0 0))) (.t 25)) 24,oG 27 (.fa 29 (.t 3)) 24,oG 28 (.ld (.one (.con (.slice none 0 0))) (.t 27)) 24,oG 29 (.call 85 [(.t 26),(.t 28)]) 24,oS 30 (.pick (.t 24) (.t 29) (.c (.bool false))),oS 4 (.mv (.t 30))]) .ret))
def r_tsamC:List ARes:=[(.t 4)]
theorem s_tsamC:slimF Tryz.prog Tryz.f55=some (c_tsamC,r_tsamC):=by kernel_rfl
def c_tsamH:ACode:=(.seq (.reg none [oS 2 (.box 40 26 (.t 0)),oS 3 (.box 40 26 (.t 1)),oS 4 (.mv (.c (.bool false)))]) (.seq (.reg none [oS 5 (.fa 20 (.t 2)),oS 6 (.ld (.one (.str [])) (.t 5)),oS 7 (.fa 20 (.t 3)),oS 8 (.ld (.one (.str [])) (.t 7)),oS 9 (.bin .eql (.t 6) (.t 8)),oS 10 (.mv (.t 9)),oG 11 (.fa 21 (.t 2)) 10,oG 12 (.ld (.one (.int .i64 0)) (.t 11)) 10,oG 13 (.fa 21 (.t 3)) 10,oG 14 (.ld (.one (.int .i64 0)) (.t 13)) 10,oG 15 (.bin .eql (.t 12) (.t 14)) 10,oS 16 (.pick (.t 10) (.t 15) (.c (.bool false))),oS 17 (.mv (.t 16)),oG 18 (.fa 22 (.t 2)) 17,oG 19 (.ld (.one (.int .i64 0)) (.t 18)) 17,oG 20 (.fa 22 (.t 3)) 17,oG 21 (.ld (.one (.int .i64 0)) (.t 20)) 17,oG 22 (.bin .eql (.t 19) (.t 21)) 17,oS 23 (.pick (.t 17) (.t 22) (.c (.bool false))),oS 24 (.mv (.t 23)),oG 25 (.fa 25 (.t 2)) 24,oG 26 (.ld (.one (.str [])) (.t 25)) 24,oG 27 (.fa 25 (.t 3)) 24,oG 28 (.ld (.one (.str [])) (.t 27)) 24,oG 29 (.bin .eql (.t 26) (.t 28)) 24,oS 30 (.pick (.t 24) (.t 29) (.c (.bool false))),oS 31 (.mv (.t 30)),oG 32 (.fa 23 (.t 2)) 31,oG 33 (.ld (.one (.con (.slice none 0 0))) (.t 32)) 31,oG 34 (.fa 23 (.t 3)) 31,oG 35 (.ld (.one (.con (.slice none 0 0))) (.t 34)) 31,oG 36 (.call 96 [(.t 33),(.t 35)]) 31,oS 37 (.pick (.t 31) (.t 36) (.c (.bool false))),oS 4 (.mv (.t 37))]) .ret))
def r_tsamH:List ARes:=[(.t 4)]
theorem s_tsamH:slimF Tryz.prog Tryz.f66=some (c_tsamH,r_tsamH):=by kernel_rfl
def b_seqC_0:ACode:=(.seq (.reg none [oS 14 (.bin .lss (.t 13) (.t 12))]) (.seq (.cond (.t 14) .skip (.exit 0)) (.seq (.block 1 (.seq (.reg none [oS 15 (.mv (.t 13)),oS 5 (.mv (.t 15))]) (.seq (.reg (some [(0,false),(1,false),(2,false),(3,false),(4,false),(5,false),(6,false),(7,false),(8,true)]) [oS 16 (.mv (.t 0)),oS 17 (.mv (.t 5)),oS 18 (.ia 2 (.agg [(1,(.str [])),(1,(.str []))]) (.t 16) (.t 17)),oS 19 (.ld (.st 2) (.t 18)),oS 20 (.mv (.t 1)),oS 21 (.mv (.t 5)),oS 22 (.ia 2 (.agg [(1,(.str [])),(1,(.str []))]) (.t 20) (.t 21)),oS 23 (.ld (.st 2) (.t 22)),oS 24 (.eqS true [(0,((.one (.str [])),0)),(1,((.one (.str [])),0))] (.t 19) (.t 23))]) (.cond (.t 24) (.seq (.reg none [oS 4 (.mv (.c (.bool false)))]) .ret) .skip)))) (.reg none [oS 25 (.bin .add (.t 13) (.c (.int .i64 1))),oS 13 (.mv (.t 25))]))))
def t_seqC_0:ACode:=(.seq (.reg none [oS 4 (.mv (.c (.bool true)))]) .ret)
def c_seqC:ACode:=(.seq (.reg none [oS 4 (.mv (.c (.bool false)))]) (.seq (.seq (.reg none [oS 6 (.mv (.t 0)),oS 7 (.len none false (.t 6)),oS 8 (.mv (.t 1)),oS 9 (.len none false (.t 8)),oS 10 (.bin .neq (.t 7) (.t 9))]) (.cond (.t 10) (.seq (.reg none [oS 4 (.mv (.c (.bool false)))]) .ret) .skip)) (.seq (.seq (.reg none [oS 11 (.mv (.t 0)),oS 12 (.len none false (.t 11)),oS 13 (.mv (.c (.int .i64 0)))]) (.block 0 (.loop b_seqC_0))) t_seqC_0)))
def r_seqC:List ARes:=[(.t 4)]
theorem s_seqC:slimF Tryz.prog Tryz.f85=some (c_seqC,r_seqC):=by kernel_rfl
def b_seqH_0:ACode:=(.seq (.reg none [oS 14 (.bin .lss (.t 13) (.t 12))]) (.seq (.cond (.t 14) .skip (.exit 0)) (.seq (.block 1 (.seq (.reg none [oS 15 (.mv (.t 13)),oS 5 (.mv (.t 15))]) (.seq (.reg (some [(0,false),(1,false),(2,false),(3,false),(4,false),(5,false),(6,false),(7,false),(8,true)]) [oS 16 (.mv (.t 0)),oS 17 (.mv (.t 5)),oS 18 (.ia 2 (.agg [(1,(.str [])),(1,(.str []))]) (.t 16) (.t 17)),oS 19 (.ld (.st 2) (.t 18)),oS 20 (.mv (.t 1)),oS 21 (.mv (.t 5)),oS 22 (.ia 2 (.agg [(1,(.str [])),(1,(.str []))]) (.t 20) (.t 21)),oS 23 (.ld (.st 2) (.t 22)),oS 24 (.eqS true [(0,((.one (.str [])),0)),(1,((.one (.str [])),0))] (.t 19) (.t 23))]) (.cond (.t 24) (.seq (.reg none [oS 4 (.mv (.c (.bool false)))]) .ret) .skip)))) (.reg none [oS 25 (.bin .add (.t 13) (.c (.int .i64 1))),oS 13 (.mv (.t 25))]))))
def t_seqH_0:ACode:=(.seq (.reg none [oS 4 (.mv (.c (.bool true)))]) .ret)
def c_seqH:ACode:=(.seq (.reg none [oS 4 (.mv (.c (.bool false)))]) (.seq (.seq (.reg none [oS 6 (.mv (.t 0)),oS 7 (.len none false (.t 6)),oS 8 (.mv (.t 1)),oS 9 (.len none false (.t 8)),oS 10 (.bin .neq (.t 7) (.t 9))]) (.cond (.t 10) (.seq (.reg none [oS 4 (.mv (.c (.bool false)))]) .ret) .skip)) (.seq (.seq (.reg none [oS 11 (.mv (.t 0)),oS 12 (.len none false (.t 11)),oS 13 (.mv (.c (.int .i64 0)))]) (.block 0 (.loop b_seqH_0))) t_seqH_0)))
def r_seqH:List ARes:=[(.t 4)]
theorem s_seqH:slimF Tryz.prog Tryz.f96=some (c_seqH,r_seqH):=by kernel_rfl
def b_twords_0:ACode:=(.seq (.reg none [oS 24 (.bin .lss (.t 23) (.t 22))]) (.seq (.cond (.t 24) .skip (.exit 0)) (.seq (.block 1 (.seq (.reg none [oS 25 (.ia 2 (.agg [(1,(.str [])),(1,(.str []))]) (.t 21) (.t 23)),oS 26 (.ld (.st 2) (.t 25)),oS 5 (.new 78 [(1,(.str [])),(1,(.str []))]),oN (.st (.st 2) (.t 5) (.t 26))]) (.reg (some [(0,false),(1,false),(2,false),(3,false),(4,false),(5,false),(6,true),(7,true),(8,true)]) [oS 27 (.fa 0 (.t 5)),oS 28 (.ld (.one (.str [])) (.t 27)),oS 29 (.bin .add (.t 28) (.c (.str [32]))),oS 30 (.fa 1 (.t 5)),oS 31 (.ld (.one (.str [])) (.t 30)),oS 32 (.call 52 [(.t 31),(.c (.str [10])),(.c (.str [10,32]))]),oS 33 (.bin .add (.t 29) (.t 32)),oS 34 (.bin .add (.t 33) (.c (.str [10]))),oS 35 (.call 50 [(.t 3),(.t 34)])]))) (.reg none [oS 36 (.bin .add (.t 23) (.c (.int .i64 1))),oS 23 (.mv (.t 36))]))))
def t_twords_0:ACode:=(.seq (.reg none [oS 37 (.call 53 [(.t 3)]),oS 2 (.mv (.t 37))]) .ret)
def c_twords:ACode:=(.seq (.reg none [oS 1 (.box 40 26 (.t 0)),oS 2 (.mv (.c (.str [])))]) (.seq (.reg none [oS 3 (.new 97 [(1,(.con (.pointer none))),(1,(.con (.slice none 0 0)))])]) (.seq (.reg (some [(0,false),(1,false),(2,false),(3,false),(4,false),(5,false),(6,false),(7,false),(5,false),(5,false),(10,false),(11,true),(12,true),(13,true)]) [oS 6 (.fa 20 (.t 1)),oS 7 (.ld (.one (.str [])) (.t 6)),oS 8 (.bin .add (.t 7) (.c (.str [10]))),oS 9 (.fa 21 (.t 1)),oS 10 (.ld (.one (.int .i64 0)) (.t 9)),oS 11 (.call 62 [(.t 10)]),oS 12 (.bin .add (.t 8) (.t 11)),oS 13 (.bin .add (.t 12) (.c (.str [32]))),oS 14 (.fa 22 (.t 1)),oS 15 (.ld (.one (.int .i64 0)) (.t 14)),oS 16 (.call 62 [(.t 15)]),oS 17 (.bin .add (.t 13) (.t 16)),oS 18 (.bin .add (.t 17) (.c (.str [10]))),oS 19 (.call 50 [(.t 3),(.t 18)])]) (.seq (.seq (.reg none [oS 20 (.fa 23 (.t 1)),oS 21 (.ld (.one (.con (.slice none 0 0))) (.t 20)),oS 22 (.len none false (.t 21)),oS 23 (.mv (.c (.int .i64 0)))]) (.block 0 (.loop b_twords_0))) t_twords_0))))
def r_twords:List ARes:=[(.t 2)]
theorem s_twords:slimF Tryz.prog Tryz.f67=some (c_twords,r_twords):=by kernel_rfl
def c_tnum:ACode:=(.seq (.reg none [oS 2 (.mv (.c (.int .i64 0)))]) (.seq (.reg none [oS 8 (.mv (.t 0)),oS 9 (.call 105 [(.t 8),(.c (.str [45]))]),oS 7 (.mv (.t 9)),oS 10 (.ext (.t 7) 0),oS 11 (.ext (.t 7) 1),oS 3 (.mv (.t 10)),oS 4 (.mv (.t 11))]) (.seq (.reg none [oS 13 (.mv (.t 3)),oS 14 (.call 106 [(.t 13)]),oS 12 (.mv (.t 14)),oS 15 (.ext (.t 12) 0),oS 16 (.ext (.t 12) 1),oS 5 (.mv (.t 15)),oS 6 (.mv (.t 16))]) (.seq (.seq (.reg none [oS 17 (.mv (.t 4))]) (.cond (.t 17) (.seq (.reg none [oS 18 (.mv (.t 5)),oS 19 (.un .neg (.t 18)),oS 2 (.mv (.t 19))]) .ret) .skip)) (.seq (.reg none [oS 20 (.mv (.t 5)),oS 2 (.mv (.t 20))]) .ret)))))
def r_tnum:List ARes:=[(.t 2)]
theorem s_tnum:slimF Tryz.prog Tryz.f83=some (c_tnum,r_tnum):=by kernel_rfl
def b_tspk_0:ACode:=(.seq (.seq (.reg none [oS 49 (.mv (.t 7)),oS 50 (.bin .neq (.t 49) (.c (.str [])))]) (.cond (.t 50) .skip (.exit 0))) (.block 1 (.seq (.reg none [oS 52 (.mv (.t 7)),oS 53 (.call 82 [(.t 52),(.c (.str [10]))]),oS 51 (.mv (.t 53)),oS 54 (.ext (.t 51) 0),oS 55 (.ext (.t 51) 1),oS 56 (.ext (.t 51) 2),oS 15 (.mv (.t 54)),oS 16 (.mv (.t 55)),oS 17 (.mv (.t 56))]) (.seq (.seq (.reg none [oS 57 (.fa 23 (.t 14)),oS 58 (.ld (.one (.con (.slice none 0 0))) (.t 57)),oS 59 (.len none false (.t 58)),oS 60 (.bin .sub (.t 59) (.c (.int .i64 1))),oS 18 (.mv (.t 60))]) (.seq (.reg none [oS 61 (.mv (.t 18)),oS 62 (.bin .geq (.t 61) (.c (.int .i64 0))),oS 63 (.mv (.t 62)),oG 64 (.mv (.t 15)) 63,oG 65 (.call 84 [(.t 64),(.c (.str [32]))]) 63,oS 66 (.pick (.t 63) (.t 65) (.c (.bool false)))]) (.cond (.t 66) (.reg (some [(0,false),(1,false),(2,false),(3,false),(4,false),(5,false),(6,false),(7,false),(8,false),(9,true),(10,true),(11,true),(12,true)]) [oS 67 (.fa 23 (.t 14)),oS 68 (.ld (.one (.con (.slice none 0 0))) (.t 67)),oS 69 (.mv (.t 18)),oS 70 (.ia 2 (.agg [(1,(.str [])),(1,(.str []))]) (.t 68) (.t 69)),oS 71 (.fa 1 (.t 70)),oS 72 (.ld (.one (.str [])) (.t 71)),oS 73 (.mv (.t 15)),oS 74 (.slS (.t 73) (some (.c (.int .i64 1))) none),oS 75 (.bin .add (.c (.str [10])) (.t 74)),oS 76 (.bin .add (.t 72) (.t 75)),oS 77 (.ia 2 (.agg [(1,(.str [])),(1,(.str []))]) (.t 68) (.t 69)),oS 78 (.fa 1 (.t 77)),oN (.st (.one (.str [])) (.t 78) (.t 76))]) (.seq (.reg none [oS 80 (.mv (.t 15)),oS 81 (.call 82 [(.t 80),(.c (.str [32]))]),oS 79 (.mv (.t 81)),oS 82 (.ext (.t 79) 0),oS 83 (.ext (.t 79) 1),oS 84 (.ext (.t 79) 2),oS 19 (.mv (.t 82)),oS 20 (.mv (.t 83)),oS 21 (.mv (.t 84))]) (.reg none [oS 85 (.fa 23 (.t 14)),oS 86 (.ld (.one (.con (.slice none 0 0))) (.t 85)),oS 87 (.mv (.t 19)),oS 88 (.mv (.t 20)),oS 89 (.build [(1,(.str [])),(1,(.str []))] [(0,(1,(.t 87))),(1,(1,(.t 88)))]),oS 90 (.buildSl 78 2 [(.t 89)]),oS 91 (.app 78 2 32 (.t 86) (.t 90)),oS 92 (.fa 23 (.t 14)),oN (.st (.one (.con (.slice none 0 0))) (.t 92) (.t 91))]))))) (.reg none [oS 93 (.mv (.t 16)),oS 7 (.mv (.t 93))])))))
def t_tspk_0:ACode:=(.seq (.reg none [oS 95 (.ld (.st 26) (.t 14)),oS 96 (.call 36 [(.t 95)]),oS 94 (.mv (.t 96)),oS 97 (.ext (.t 94) 0),oS 98 (.ext (.t 94) 1),oS 22 (.mv (.t 97)),oS 23 (.mv (.t 98))]) (.seq (.reg (some [(0,false),(1,false),(2,false),(3,false),(4,false),(5,false),(6,false),(7,false),(8,false),(9,false),(10,false),(11,false),(12,false),(13,false),(14,false),(14,false),(16,false),(17,false),(18,true),(19,true)]) [oS 99 (.ld (.st 26) (.t 14)),oS 100 (.mv (.t 8)),oS 101 (.mv (.t 100)),oG 102 (.mv (.t 10)) 101,oS 103 (.pick (.t 101) (.t 102) (.c (.bool false))),oS 104 (.mv (.t 103)),oG 105 (.mv (.t 13)) 104,oS 106 (.pick (.t 104) (.t 105) (.c (.bool false))),oS 107 (.mv (.t 106)),oG 108 (.mv (.t 23)) 107,oG 109 (.bin .eql (.t 108) (.c (.int .i64 0))) 107,oS 110 (.pick (.t 107) (.t 109) (.c (.bool false))),oS 111 (.mv (.t 110)),oG 112 (.ld (.st 26) (.t 14)) 111,oG 113 (.call 67 [(.t 112)]) 111,oG 114 (.mv (.t 0)) 111,oG 115 (.bin .eql (.t 113) (.t 114)) 111,oS 116 (.pick (.t 111) (.t 115) (.c (.bool false))),oN (.st (.st 26) (.t 4) (.t 99)),oS 5 (.mv (.t 116))]) .ret))
def c_tspk:ACode:=(.seq (.reg none [oS 4 (.new 40 [(20,(.blob (List.replicate 20 (.int .u8 0)))),(1,(.str [])),(1,(.int .i64 0)),(1,(.int .i64 0)),(1,(.con (.slice none 0 0))),(1,(.con (.slice none 0 0))),(1,(.str []))]),oS 5 (.mv (.c (.bool false)))]) (.seq (.reg none [oS 25 (.mv (.t 0)),oS 26 (.call 82 [(.t 25),(.c (.str [10]))]),oS 24 (.mv (.t 26)),oS 27 (.ext (.t 24) 0),oS 28 (.ext (.t 24) 1),oS 29 (.ext (.t 24) 2),oS 6 (.mv (.t 27)),oS 7 (.mv (.t 28)),oS 8 (.mv (.t 29))]) (.seq (.reg none [oS 31 (.mv (.t 7)),oS 32 (.call 82 [(.t 31),(.c (.str [10]))]),oS 30 (.mv (.t 32)),oS 33 (.ext (.t 30) 0),oS 34 (.ext (.t 30) 1),oS 35 (.ext (.t 30) 2),oS 9 (.mv (.t 33)),oS 7 (.mv (.t 34)),oS 10 (.mv (.t 35))]) (.seq (.reg none [oS 37 (.mv (.t 9)),oS 38 (.call 82 [(.t 37),(.c (.str [32]))]),oS 36 (.mv (.t 38)),oS 39 (.ext (.t 36) 0),oS 40 (.ext (.t 36) 1),oS 41 (.ext (.t 36) 2),oS 11 (.mv (.t 39)),oS 12 (.mv (.t 40)),oS 13 (.mv (.t 41))]) (.seq (.reg none [oS 42 (.mv (.t 6)),oS 43 (.mv (.t 11)),oS 44 (.call 83 [(.t 43)]),oS 45 (.mv (.t 12)),oS 46 (.call 83 [(.t 45)]),oS 47 (.mv (.t 1)),oS 48 (.build [(20,(.blob (List.replicate 20 (.int .u8 0)))),(1,(.str [])),(1,(.int .i64 0)),(1,(.int .i64 0)),(1,(.con (.slice none 0 0))),(1,(.con (.slice none 0 0))),(1,(.str []))] [(20,(1,(.t 42))),(21,(1,(.t 44))),(22,(1,(.t 46))),(25,(1,(.t 47)))]),oS 14 (.new 40 [(20,(.blob (List.replicate 20 (.int .u8 0)))),(1,(.str [])),(1,(.int .i64 0)),(1,(.int .i64 0)),(1,(.con (.slice none 0 0))),(1,(.con (.slice none 0 0))),(1,(.str []))]),oN (.st (.st 26) (.t 14) (.t 48))]) (.seq (.block 0 (.loop b_tspk_0)) t_tspk_0))))))
def r_tspk:List ARes:=[(.c 4 (.st 26)),(.t 5)]
theorem s_tspk:slimF Tryz.prog Tryz.f54=some (c_tspk,r_tspk):=by kernel_rfl
def c_tplain:ACode:=(.seq (.reg none [oS 1 (.box 34 31 (.t 0)),oS 2 (.new 40 [(20,(.blob (List.replicate 20 (.int .u8 0)))),(1,(.str [])),(1,(.int .i64 0)),(1,(.int .i64 0)),(1,(.con (.slice none 0 0))),(1,(.con (.slice none 0 0))),(1,(.str []))])]) (.seq (.reg none [oS 6 (.ld (.st 31) (.t 1)),oS 7 (.call 31 [(.t 6)]),oS 3 (.new 34 [(20,(.blob (List.replicate 20 (.int .u8 0)))),(1,(.con (.slice none 0 0))),(1,(.str [])),(1,(.str [])),(1,(.int .i64 0)),(1,(.str [])),(1,(.str [])),(1,(.str [])),(1,(.int .i64 0)),(1,(.str [])),(1,(.con (.slice none 0 0))),(1,(.str []))]),oN (.st (.st 31) (.t 3) (.t 7))]) (.seq (.reg none [oS 8 (.fa 30 (.t 3)),oN (.st (.one (.str [])) (.t 8) (.c (.str [])))]) (.seq (.reg none [oS 10 (.ld (.st 31) (.t 3)),oS 11 (.call 29 [(.t 10)]),oS 9 (.mv (.t 11)),oS 12 (.ext (.t 9) 0),oS 13 (.ext (.t 9) 1),oS 4 (.mv (.t 12)),oS 5 (.mv (.t 13))]) (.seq (.reg none [oS 14 (.fa 21 (.t 1)),oS 15 (.fa 0 (.t 14)),oS 16 (.ld (.one (.str [])) (.t 15)),oS 17 (.bin .add (.t 16) (.c (.str [32,60]))),oS 18 (.fa 21 (.t 1)),oS 19 (.fa 1 (.t 18)),oS 20 (.ld (.one (.str [])) (.t 19)),oS 21 (.bin .add (.t 17) (.t 20)),oS 22 (.bin .add (.t 21) (.c (.str [62]))),oS 23 (.fa 21 (.t 1)),oS 24 (.fa 2 (.t 23)),oS 25 (.ld (.one (.int .i64 0)) (.t 24)),oS 26 (.fa 30 (.t 1)),oS 27 (.ld (.one (.str [])) (.t 26)),oS 28 (.mv (.t 4)),oS 29 (.toStr (.t 28)),oS 30 (.build [(1,(.str [])),(1,(.str []))] [(0,(1,(.c (.str [103,105,116])))),(1,(1,(.t 29)))]),oS 31 (.buildSl 78 2 [(.t 30)]),oS 32 (.build [(20,(.blob (List.replicate 20 (.int .u8 0)))),(1,(.str [])),(1,(.int .i64 0)),(1,(.int .i64 0)),(1,(.con (.slice none 0 0))),(1,(.con (.slice none 0 0))),(1,(.str []))] [(20,(1,(.t 22))),(21,(1,(.t 25))),(25,(1,(.t 27))),(23,(1,(.t 31)))]),oN (.st (.st 26) (.t 2) (.t 32))]) .ret)))))
def r_tplain:List ARes:=[(.c 2 (.st 26))]
theorem s_tplain:slimF Tryz.prog Tryz.f56=some (c_tplain,r_tplain):=by kernel_rfl
def c_tof:ACode:=(.seq (.reg none [oS 1 (.box 34 31 (.t 0)),oS 2 (.new 40 [(20,(.blob (List.replicate 20 (.int .u8 0)))),(1,(.str [])),(1,(.int .i64 0)),(1,(.int .i64 0)),(1,(.con (.slice none 0 0))),(1,(.con (.slice none 0 0))),(1,(.str []))])]) (.seq (.seq (.reg none [oS 5 (.fa 29 (.t 1)),oS 6 (.ld (.one (.con (.slice none 0 0))) (.t 5)),oS 7 (.len none false (.t 6)),oS 8 (.bin .eql (.t 7) (.c (.int .i64 1))),oS 9 (.mv (.t 8)),oG 10 (.fa 29 (.t 1)) 9,oG 11 (.ld (.one (.con (.slice none 0 0))) (.t 10)) 9,oG 12 (.ia 2 (.agg [(1,(.str [])),(1,(.str []))]) (.t 11) (.c (.int .i64 0))) 9,oG 13 (.fa 0 (.t 12)) 9,oG 14 (.ld (.one (.str [])) (.t 13)) 9,oG 15 (.bin .eql (.t 14) (.c (.str [104,103]))) 9,oS 16 (.pick (.t 9) (.t 15) (.c (.bool false)))]) (.cond (.t 16) (.seq (.reg (some [(0,false),(1,false),(2,false),(3,false),(4,false),(5,false),(6,false),(7,false),(8,false),(9,false),(10,false),(11,false),(12,true),(13,true)]) [oS 18 (.fa 29 (.t 1)),oS 19 (.ld (.one (.con (.slice none 0 0))) (.t 18)),oS 20 (.ia 2 (.agg [(1,(.str [])),(1,(.str []))]) (.t 19) (.c (.int .i64 0))),oS 21 (.fa 1 (.t 20)),oS 22 (.ld (.one (.str [])) (.t 21)),oS 23 (.fa 30 (.t 1)),oS 24 (.ld (.one (.str [])) (.t 23)),oS 25 (.callP 54 [(.t 22),(.t 24)]),oS 17 (.mv (.t 25)),oS 26 (.ext (.t 17) 0),oS 27 (.ext (.t 17) 1),oS 3 (.new 40 [(20,(.blob (List.replicate 20 (.int .u8 0)))),(1,(.str [])),(1,(.int .i64 0)),(1,(.int .i64 0)),(1,(.con (.slice none 0 0))),(1,(.con (.slice none 0 0))),(1,(.str []))]),oN (.st (.st 26) (.t 3) (.t 26)),oS 4 (.mv (.t 27))]) (.seq (.reg (some [(0,true),(1,true),(2,false),(3,false),(3,false),(5,true),(6,true)]) [oS 28 (.mv (.t 4)),oS 29 (.mv (.t 28)),oG 30 (.ld (.st 26) (.t 3)) 29,oG 31 (.call 37 [(.t 30)]) 29,oG 32 (.ld (.st 31) (.t 1)) 29,oG 33 (.call 55 [(.t 31),(.t 32)]) 29,oS 34 (.pick (.t 29) (.t 33) (.c (.bool false)))]) (.cond (.t 34) (.seq (.reg none [oS 35 (.ld (.st 26) (.t 3)),oN (.st (.st 26) (.t 2) (.t 35))]) .ret) .skip))) .skip)) (.seq (.reg none [oS 36 (.ld (.st 31) (.t 1)),oS 37 (.call 56 [(.t 36)]),oN (.st (.st 26) (.t 2) (.t 37))]) .ret)))
def r_tof:List ARes:=[(.c 2 (.st 26))]
theorem s_tof:slimF Tryz.prog Tryz.f30=some (c_tof,r_tof):=by kernel_rfl
def c_tback:ACode:=(.seq (.reg none [oS 1 (.box 40 26 (.t 0)),oS 2 (.new 34 [(20,(.blob (List.replicate 20 (.int .u8 0)))),(1,(.con (.slice none 0 0))),(1,(.str [])),(1,(.str [])),(1,(.int .i64 0)),(1,(.str [])),(1,(.str [])),(1,(.str [])),(1,(.int .i64 0)),(1,(.str [])),(1,(.con (.slice none 0 0))),(1,(.str []))])]) (.seq (.seq (.reg none [oS 6 (.fa 23 (.t 1)),oS 7 (.ld (.one (.con (.slice none 0 0))) (.t 6)),oS 8 (.len none false (.t 7)),oS 9 (.bin .eql (.t 8) (.c (.int .i64 1))),oS 10 (.mv (.t 9)),oG 11 (.fa 23 (.t 1)) 10,oG 12 (.ld (.one (.con (.slice none 0 0))) (.t 11)) 10,oG 13 (.ia 2 (.agg [(1,(.str [])),(1,(.str []))]) (.t 12) (.c (.int .i64 0))) 10,oG 14 (.fa 0 (.t 13)) 10,oG 15 (.ld (.one (.str [])) (.t 14)) 10,oG 16 (.bin .eql (.t 15) (.c (.str [103,105,116]))) 10,oS 17 (.pick (.t 10) (.t 16) (.c (.bool false)))]) (.cond (.t 17) (.seq (.reg none [oS 19 (.fa 23 (.t 1)),oS 20 (.ld (.one (.con (.slice none 0 0))) (.t 19)),oS 21 (.ia 2 (.agg [(1,(.str [])),(1,(.str []))]) (.t 20) (.c (.int .i64 0))),oS 22 (.fa 1 (.t 21)),oS 23 (.ld (.one (.str [])) (.t 22)),oS 24 (.bytes 5 (.t 23)),oS 25 (.call 65 [(.t 24)]),oS 18 (.mv (.t 25)),oS 26 (.ext (.t 18) 0),oS 27 (.ext (.t 18) 1),oS 3 (.new 34 [(20,(.blob (List.replicate 20 (.int .u8 0)))),(1,(.con (.slice none 0 0))),(1,(.str [])),(1,(.str [])),(1,(.int .i64 0)),(1,(.str [])),(1,(.str [])),(1,(.str [])),(1,(.int .i64 0)),(1,(.str [])),(1,(.con (.slice none 0 0))),(1,(.str []))]),oN (.st (.st 31) (.t 3) (.t 26)),oS 4 (.mv (.t 27))]) (.seq (.reg none [oS 28 (.mv (.t 4)),oS 29 (.bin .eql (.t 28) (.c (.int .i64 0))),oS 30 (.mv (.t 29)),oG 31 (.fa 0 (.t 3)) 30,oG 32 (.ld (.arr 20) (.t 31)) 30,oG 33 (.buildA (List.replicate 20 (.int .u8 0)) []) 30,oG 34 (.eqA false 20 (.t 32) (.t 33)) 30,oS 35 (.pick (.t 30) (.t 34) (.c (.bool false))),oS 36 (.mv (.t 35)),oG 37 (.fa 20 (.t 3)) 36,oG 38 (.ld (.one (.con (.slice none 0 0))) (.t 37)) 36,oG 39 (.len none false (.t 38)) 36,oG 40 (.bin .eql (.t 39) (.c (.int .i64 0))) 36,oS 41 (.pick (.t 36) (.t 40) (.c (.bool false))),oS 42 (.mv (.t 41)),oG 43 (.fa 30 (.t 3)) 42,oG 44 (.ld (.one (.str [])) (.t 43)) 42,oG 45 (.bin .eql (.t 44) (.c (.str []))) 42,oS 46 (.pick (.t 42) (.t 45) (.c (.bool false)))]) (.cond (.t 46) (.seq (.reg none [oS 47 (.fa 25 (.t 1)),oS 48 (.ld (.one (.str [])) (.t 47)),oS 49 (.fa 30 (.t 3)),oN (.st (.one (.str [])) (.t 49) (.t 48))]) (.seq (.reg (some [(0,false),(1,false),(1,false),(3,true)]) [oS 50 (.ld (.st 31) (.t 3)),oS 51 (.call 30 [(.t 50)]),oS 52 (.ld (.st 26) (.t 1)),oS 53 (.call 66 [(.t 51),(.t 52)])]) (.cond (.t 53) (.seq (.reg none [oS 54 (.ld (.st 31) (.t 3)),oN (.st (.st 31) (.t 2) (.t 54))]) .ret) .skip))) .skip))) .skip)) (.seq (.reg none [oS 55 (.fa 21 (.t 1)),oS 56 (.ld (.one (.int .i64 0)) (.t 55)),oS 57 (.build [(1,(.str [])),(1,(.str [])),(1,(.int .i64 0)),(1,(.str []))] [(0,(1,(.c (.str [104,103])))),(1,(1,(.c (.str [104,103])))),(2,(1,(.t 56))),(3,(1,(.c (.str [43,48,48,48,48]))))]),oS 5 (.new 31 [(1,(.str [])),(1,(.str [])),(1,(.int .i64 0)),(1,(.str []))]),oN (.st (.st 4) (.t 5) (.t 57))]) (.seq (.reg (some [(0,false),(1,false),(2,false),(3,false),(4,false),(5,false),(6,false),(7,false),(8,true),(9,true)]) [oS 58 (.ld (.st 4) (.t 5)),oS 59 (.ld (.st 4) (.t 5)),oS 60 (.fa 25 (.t 1)),oS 61 (.ld (.one (.str [])) (.t 60)),oS 62 (.ld (.st 26) (.t 1)),oS 63 (.call 67 [(.t 62)]),oS 64 (.build [(1,(.str [])),(1,(.str []))] [(0,(1,(.c (.str [104,103])))),(1,(1,(.t 63)))]),oS 65 (.buildSl 69 2 [(.t 64)]),oS 66 (.build [(20,(.blob (List.replicate 20 (.int .u8 0)))),(1,(.con (.slice none 0 0))),(1,(.str [])),(1,(.str [])),(1,(.int .i64 0)),(1,(.str [])),(1,(.str [])),(1,(.str [])),(1,(.int .i64 0)),(1,(.str [])),(1,(.con (.slice none 0 0))),(1,(.str []))] [(21,(4,(.t 58))),(25,(4,(.t 59))),(30,(1,(.t 61))),(29,(1,(.t 65)))]),oN (.st (.st 31) (.t 2) (.t 66))]) .ret))))
def r_tback:List ARes:=[(.c 2 (.st 31))]
theorem s_tback:slimF Tryz.prog Tryz.f37=some (c_tback,r_tback):=by kernel_rfl
def c_tchg:ACode:=(.seq (.reg none [oS 1 (.box 34 31 (.t 0)),oS 2 (.new 40 [(20,(.blob (List.replicate 20 (.int .u8 0)))),(1,(.str [])),(1,(.int .i64 0)),(1,(.int .i64 0)),(1,(.con (.slice none 0 0))),(1,(.con (.slice none 0 0))),(1,(.str []))]),oS 3 (.mv (.c (.int .i64 0)))]) (.seq (.seq (.reg none [oS 7 (.ld (.st 31) (.t 1)),oS 8 (.call 29 [(.t 7)]),oS 6 (.mv (.t 8)),oS 9 (.ext (.t 6) 0),oS 10 (.ext (.t 6) 1),oS 4 (.mv (.t 9)),oS 5 (.mv (.t 10))]) (.seq (.reg none [oS 11 (.mv (.t 5)),oS 12 (.bin .neq (.t 11) (.c (.int .i64 0)))]) (.cond (.t 12) (.seq (.reg none [oS 13 (.build [(20,(.blob (List.replicate 20 (.int .u8 0)))),(1,(.str [])),(1,(.int .i64 0)),(1,(.int .i64 0)),(1,(.con (.slice none 0 0))),(1,(.con (.slice none 0 0))),(1,(.str []))] []),oN (.st (.st 26) (.t 2) (.t 13)),oS 3 (.mv (.c (.int .i64 4)))]) .ret) .skip))) (.seq (.reg none [oS 14 (.ld (.st 31) (.t 1)),oS 15 (.call 31 [(.t 14)]),oS 16 (.call 30 [(.t 15)]),oN (.st (.st 26) (.t 2) (.t 16)),oS 3 (.mv (.c (.int .i64 0)))]) .ret)))
def r_tchg:List ARes:=[(.c 2 (.st 26)),(.t 3)]
theorem s_tchg:slimF Tryz.prog Tryz.f11=some (c_tchg,r_tchg):=by kernel_rfl
def c_tcom:ACode:=(.seq (.reg none [oS 1 (.box 40 26 (.t 0)),oS 2 (.new 34 [(20,(.blob (List.replicate 20 (.int .u8 0)))),(1,(.con (.slice none 0 0))),(1,(.str [])),(1,(.str [])),(1,(.int .i64 0)),(1,(.str [])),(1,(.str [])),(1,(.str [])),(1,(.int .i64 0)),(1,(.str [])),(1,(.con (.slice none 0 0))),(1,(.str []))]),oS 3 (.mv (.c (.int .i64 0)))]) (.seq (.reg none [oS 6 (.ld (.st 26) (.t 1)),oS 7 (.call 35 [(.t 6)]),oN (.st (.st 26) (.t 1) (.t 7))]) (.seq (.seq (.reg none [oS 9 (.ld (.st 26) (.t 1)),oS 10 (.call 36 [(.t 9)]),oS 8 (.mv (.t 10)),oS 11 (.ext (.t 8) 0),oS 12 (.ext (.t 8) 1),oS 4 (.mv (.t 11)),oS 5 (.mv (.t 12))]) (.seq (.reg none [oS 13 (.mv (.t 5)),oS 14 (.bin .neq (.t 13) (.c (.int .i64 0)))]) (.cond (.t 14) (.seq (.reg none [oS 15 (.build [(20,(.blob (List.replicate 20 (.int .u8 0)))),(1,(.con (.slice none 0 0))),(1,(.str [])),(1,(.str [])),(1,(.int .i64 0)),(1,(.str [])),(1,(.str [])),(1,(.str [])),(1,(.int .i64 0)),(1,(.str [])),(1,(.con (.slice none 0 0))),(1,(.str []))] []),oN (.st (.st 31) (.t 2) (.t 15)),oS 3 (.mv (.c (.int .i64 4)))]) .ret) .skip))) (.seq (.reg none [oS 16 (.ld (.st 26) (.t 1)),oS 17 (.call 37 [(.t 16)]),oN (.st (.st 31) (.t 2) (.t 17)),oS 3 (.mv (.c (.int .i64 0)))]) .ret))))
def r_tcom:List ARes:=[(.c 2 (.st 31)),(.t 3)]
theorem s_tcom:slimF Tryz.prog Tryz.f19=some (c_tcom,r_tcom):=by kernel_rfl
set_option maxHeartbeats 2000000 in
set_option maxRecDepth 1000000 in
theorem bgrow_walk (b n:Nat) (w:World) (hbk:w.heap[b]?=some (.cells #[.pointer (some ⟨b,0,none⟩),.slice none 0 0] 97 (0,0))) (hn:n≤281474976710656) :
  Calls Tryz.prog 112 #[.pointer (some ⟨b,0,none⟩),.int .i64 n] w fun e w' => e=.returned (.tuple #[])∧∃ (cs:Array Value),cs.size≤9223372036854775807∧w' = ((w.setCell ⟨b,1,none⟩ (.slice (some ⟨w.heap.size,0,none⟩) 0 cs.size)).alloc (.cells cs 5)).drew.drew.drew:=by
 obtain ⟨cs,hrun,hle,hmax⟩:=Lib.run_makeNoZero (P:=Tryz.prog) w.drew #[3] 71 5 Tryz.underlying71 n hn
 have hw:IntKind.i64.wrap (IntKind.i64.wrap 0+(n:Int))=n:=by
  rw [IntKind.wrap_i64,IntKind.wrap_i64]
  omega
 have hcall:(callFunc 132 #[.int .i64 (IntKind.i64.wrap (IntKind.i64.wrap 0+(n:Int)))]).run Tryz.prog w.drew=.ok (.value (.slice (some ⟨w.drew.heap.size,0,none⟩) n cs.size)) (w.drew.drew.drew.alloc (.cells cs 5)):=by
  rw [hw,run_callFunc_extern Tryz.func132 (by kernel_rfl) (by kernel_rfl) (by kernel_rfl) (e:=Extern.BytealgMakeNoZero.makeNoZero #[3] #[71]) (by kernel_rfl),hrun]
  rfl
 have hlt:b<w.heap.size:=by
  rcases Nat.lt_or_ge b w.heap.size with h' | h'
  ·exact h'
  ·simp [Array.getElem?_eq_none h'] at hbk
 have c1:w.drew.cell? ⟨b,1,none⟩=some (.slice none 0 0):=by
  have:w.drew.heap[b]?=_:=hbk
  rw [Lib.cell_of_heap this]; rfl
 have c2:(w.alloc (.cells cs 5)).cell? ⟨b,1,none⟩=some (.slice none 0 0):=by
  have:(w.alloc (.cells cs 5)).heap[b]?=_:=(Lib.alloc_old w _ b hlt).trans hbk
  rw [Lib.cell_of_heap this]; rfl
 have f2:(w.alloc (.cells cs 5)).frozen? ⟨b,1,none⟩=false:=Lib.frozen_of_heap ((Lib.alloc_old w _ b hlt).trans hbk) 1
 have hcopy:∀ W:World,(Builtin.copy_ #[71,71] 3 #[.slice (some ⟨w.heap.size,0,none⟩) 0 cs.size,.slice none 0 0]).run Tryz.prog W=.ok (goInt 0) W :=
  fun W=>run_copy_none W 71 71 3 5 _ _ 0 cs.size 0 0 Tryz.underlying71 (by kernel_rfl) rfl
 clear hw
 have hm:cs.size≤9223372036854775807:=by have:=hmax (by unfold maxLen; omega); simpa [maxLen] using this
 have mixed:Tryz.prog.follows Departure.mixedOrders=true:=by kernel_rfl
 go_enter Tryz.func112,Tryz.ntmps112
 go_wp2
 go_region_o
 all_goals (go_wp2; go_end0; exact ⟨rfl,cs,hm,rfl⟩)
set_option maxHeartbeats 2000000 in
set_option maxRecDepth 1000000 in
theorem bGrow_walk (b n:Nat) (w w1:World) (hcc:Calls Tryz.prog 79 #[.pointer (some ⟨b,0,none⟩)] w fun e w' => e=.returned (.tuple #[])∧w' = w1)
  (hbk1:w1.heap[b]?=some (.cells #[.pointer (some ⟨b,0,none⟩),.slice none 0 0] 97 (0,0))) (hn:n≤281474976710656) :
  Calls Tryz.prog 91 #[.pointer (some ⟨b,0,none⟩),.int .i64 n] w fun e w' => e=.returned (.tuple #[]) ∧
   (w' = w1.drew∨∃ (cs:Array Value),cs.size≤9223372036854775807∧w' = ((w1.drew.setCell ⟨b,1,none⟩ (.slice (some ⟨w1.heap.size,0,none⟩) 0 cs.size)).alloc (.cells cs 5)).drew.drew.drew):=by
 have c1:w1.cell? ⟨b,1,none⟩=some (.slice none 0 0):=by rw [Lib.cell_of_heap hbk1]; rfl
 have c1' : w1.drew.cell? ⟨b,1,none⟩=some (.slice none 0 0):=c1
 have hbk2:w1.drew.heap[b]?=some (.cells #[.pointer (some ⟨b,0,none⟩),.slice none 0 0] 97 (0,0)):=hbk1
 have mixed:Tryz.prog.follows Departure.mixedOrders=true:=by kernel_rfl
 go_enter Tryz.func91,Tryz.ntmps91
 go_wp2_with (go_at_call 79; refine hcc.mono ?_; rintro e w' ⟨rfl,h0⟩; obtain rfl:=h0.symm)
 go_region_o
 all_goals go_wp2_with (go_at_call 112; refine (bgrow_walk b n w1.drew hbk2 hn).mono ?_; rintro e w' ⟨rfl,cs,h1,rfl⟩)
 all_goals first
  | (go_end0; exact ⟨rfl,.inr ⟨cs,h1,rfl⟩⟩)
  | (go_end0; exact ⟨rfl,.inl rfl⟩)
def growS:Spec:=fun xs hp=>match xs,hp with
 | [.ref 0 0 0,.int .i64 n],[.cells T [(1,X),(1,.con (.slice none 0 0))]]=>if selfX X=true then some ⟨.tup [],[.cells T [(1,.ref 0 0 0),(1,.own 1 0)],.row 5 1 0 []],T=97∧0≤n∧n≤140737488355328⟩ else none
 | _,_=>none
theorem grown_heap {F:Nat→Prop} {w0 wA wB w' : World} {S:Nat→Prop} {ρ:Rho} {g c:Nat} {A:Option Addr} (HA:HeapOk F w0 S ρ [.cells 97 [(1,.ref 0 0 0),(1,.con (.slice none 0 0))]] wA)
  (hl:ρ 0 0=some ⟨some ⟨g,0,none⟩,0,0,0⟩) (hbel:Below wA.heap.size wA wB) (hrw:Rw wB 5 ⟨A,c,0,1⟩ []) (hA:∀ b,ablk A=some b→wA.heap.size≤b∧b<wB.heap.size)
  (hg:wB.grownBy w' (some g)) (hb' : w'.heap[g]?=some (.cells #[.pointer (some ⟨g,0,none⟩),.slice A 0 c] 97 (0,0))) :
  HeapOk F w0 S (rset ρ 1 0 ⟨A,c,0,1⟩) [.cells 97 [(1,.ref 0 0 0),(1,.own 1 0)],.row 5 1 0 []] w' ∧ Ext wA w' S S ρ (rset ρ 1 0 ⟨A,c,0,1⟩):=by
 have hn:∀ v,ρ 1 v=none:=fun v=>HA.new 1 (Nat.le_refl _) v
 have hloc:∀ i v L,ρ i v=some L→rset ρ 1 0 ⟨A,c,0,1⟩ i v=some L:=by
  intro i v L h
  by_cases e:i=1∧v=0
  ·rw [e.1,hn] at h; cases h
  ·rw [rset_ne _ _ _ _ e]; exact h
 obtain ⟨HB,EB⟩:=HA.push (S' := S) (ρ' := rset ρ 1 0 ⟨A,c,0,1⟩) (o' := .row 5 1 0 []) hbel (fun _ h=>h) (fun _ h=>.inl h) hloc (fun i v h=>rset_ne _ _ _ _ (fun e=>h e.1))
  ⟨⟨A,c,0,1⟩,[],rset_self _ _ _ _,rfl,rfl,hrw,rfl,fun b hb hs=>by have:=(hA b hb).1; have:=HA.slt b hs; omega⟩
  (fun v hv=>by show rset ρ 1 0 ⟨A,c,0,1⟩ 1 v=none; rw [rset_ne _ _ _ _ (fun e=>by have h0:0<v:=hv; omega)]; exact hn v)
  (fun b hb=>(hA b (by simpa [AObj.blk,rset_self] using hb)).1)
 have h00:rset ρ 1 0 ⟨A,c,0,1⟩ 0 0=some ⟨some ⟨g,0,none⟩,0,0,0⟩:=by rw [rset_ne _ _ _ _ (by decide)]; exact hl
 have hblk:(AObj.cells 97 [(1,.ref 0 0 0),(1,.con (.slice none 0 0))]).blk (rset ρ 1 0 ⟨A,c,0,1⟩) 0=some g:=by simp [AObj.blk,h00,ablk]
 have hob:=HB.ob 0 _ rfl
 have hnS:¬ S g:=by
  obtain ⟨g2,us,k1,_,_,k4⟩:=hob
  rw [h00] at k1; injection k1 with k1; injection k1 with k1; injection k1 with k1; injection k1 with k1
  rw [k1]; exact k4
 obtain ⟨HC,EC⟩:=HB.upd (id:=0) (S' := S) (ρ' := rset ρ 1 0 ⟨A,c,0,1⟩) (o' := .cells 97 [(1,.ref 0 0 0),(1,.own 1 0)]) rfl (by rw [hblk]; exact hg) (fun _ h=>h) (fun _ h=>.inl h) (fun _ _ _ h=>h) (fun _ _ _=>rfl)
  ⟨g,[.pointer (some ⟨g,0,none⟩),.slice A 0 c],h00,hb',⟨[_],[_],rfl,rfl,.ref 0 0 0 g _ h00 rfl,[_],[],rfl,rfl,.own 1 0 ⟨A,c,0,1⟩ (rset_self _ _ _ _),rfl⟩,hnS⟩ (fun v hv=>HB.vers 0 _ rfl v hv) (fun b hb=>.inl (by simpa [AObj.blk] using hb))
 exact ⟨HC,EB.trans EC⟩
theorem grow_ok:FnOk Tryz.prog 91 growS:=by
 intro xs0 hp r hs hp' w S ρ args H ha
 unfold growS at hs
 split at hs
 ·rename_i n T X
  split at hs
  ·rename_i hX
   injection hs with hs; subst hs
   obtain ⟨hT,n0,n1⟩:=hp'
   subst hT
   obtain ⟨v,vs,rfl,hv,hr⟩:=ha.get _ _ rfl
   obtain ⟨u,us0,rfl,hu,hr⟩:=hr.get _ _ rfl
   obtain rfl:=hr.none
   rw [hu.int]
   obtain ⟨g,L,h1,h2,rfl⟩:=hv.ref
   obtain ⟨g',us,k1,k2,k3,k4⟩:=H.ob 0 _ rfl
   rw [h1] at k1; injection k1 with k1; subst k1
   injection h2 with h2; injection h2 with h2; subst h2
   obtain ⟨x,y,rfl,c1,c2⟩:=css_two k3
   have hlt:g' < w.heap.size:=(Array.getElem?_eq_some_iff.1 k2).1
   have hy:y=.slice none 0 0:=by cases c2; rfl
   subst hy
   obtain ⟨m,rfl⟩:=Int.eq_ofNat_of_zero_le n0
   obtain ⟨s1,s2⟩:=setCells_row g' 97 (0,0) [.pointer (some ⟨g',0,none⟩)] 0 w _ k2 (by simp)
   have e1:w.setCells g' 0 [.pointer (some ⟨g',0,none⟩)]=w.setCell ⟨g',0,none⟩ (.pointer (some ⟨g',0,none⟩)):=rfl
   rw [e1] at s1 s2
   have s1:(w.setCell ⟨g',0,none⟩ (.pointer (some ⟨g',0,none⟩))).heap[g']?=some (.cells #[.pointer (some ⟨g',0,none⟩),.slice none 0 0] 97 (0,0)):=by simpa using s1
   have hblk:(AObj.cells 97 [(1,X),(1,.con (.slice none 0 0))]).blk ρ 0=some g' := by simp [AObj.blk,h1,ablk]
   obtain ⟨HA,EA⟩:=H.upd (id:=0) (S' := S) (ρ' := ρ) (o' := .cells 97 [(1,.ref 0 0 0),(1,.con (.slice none 0 0))]) rfl (by rw [hblk]; exact s2) (fun _ h=>h) (fun _ h=>.inl h) (fun _ _ _ h=>h) (fun _ _ _=>rfl)
    ⟨g',[.pointer (some ⟨g',0,none⟩),.slice none 0 0],h1,s1,⟨[_],[_],rfl,rfl,.ref 0 0 0 g' _ h1 rfl,[_],[],rfl,rfl,.con _ rfl,rfl⟩,k4⟩ (fun v hv=>H.vers 0 _ rfl v hv) (fun b hb=>.inl (by simpa [AObj.blk] using hb))
   have fin:∀ wA:World,Calls Tryz.prog 79 #[.pointer (some ⟨g',0,none⟩)] w (fun e w' => e=.returned (.tuple #[])∧w' = wA) →
     wA.heap[g']?=some (.cells #[.pointer (some ⟨g',0,none⟩),.slice none 0 0] 97 (0,0))→wA.heap.size=w.heap.size →
     HeapOk (Lent ρ [.cells 97 [(1,X),(1,.con (.slice none 0 0))]]) w S ρ [.cells 97 [(1,.ref 0 0 0),(1,.con (.slice none 0 0))]] wA→Ext w wA S S ρ ρ →
     Calls Tryz.prog 91 #[.pointer (some ⟨g',0,none⟩),.int .i64 m] w fun e w' => ∃ v S' ρ',e=.returned v∧Vl w' S' ρ' (.tup []) v ∧
      HeapOk (Lent ρ [.cells 97 [(1,X),(1,.con (.slice none 0 0))]]) w S' ρ' [.cells 97 [(1,.ref 0 0 0),(1,.own 1 0)],.row 5 1 0 []] w' ∧ Ext w w' S S' ρ ρ' ∧ (∀ b,S' b→S b∨w.heap.size≤b∨Lent ρ [.cells 97 [(1,X),(1,.con (.slice none 0 0))]] b):=by
    intro wA hcc s1 hsz HA EA
    refine (bGrow_walk g' m w wA hcc s1 (by omega)).mono ?_
    rintro e w' ⟨rfl,rfl | ⟨cs,hm,rfl⟩⟩
    ·obtain ⟨HC,EC⟩:=grown_heap (A:=none) (c:=0) (wB:=wA) (w' := wA) HA h1 (Below.refl _ _) ⟨rfl,.inl ⟨rfl,rfl,rfl⟩⟩ (fun b hb=>by cases hb) (World.grownBy.refl wA _) s1
     obtain ⟨HD,ED⟩:=HC.same (S' := S) (w' := wA.drew) (belowN (Below.refl _ wA) 1) (fun _ h=>h) (fun _ h=>.inl h)
     exact ⟨_,S,_,rfl,⟨[],rfl,rfl,fun i hi=>by simp at hi⟩,HD,(EA.trans EC).trans ED,fun b hb=>.inl hb⟩
    ·have hgl:g' < wA.heap.size:=by omega
     have hal:(wA.alloc (.cells cs 5)).heap[g']?=some (.cells #[.pointer (some ⟨g',0,none⟩),.slice none 0 0] 97 (0,0)):=by
      rw [Lib.alloc_old wA _ g' hgl]; exact s1
     obtain ⟨t1,t2⟩:=setCells_row g' 97 (0,0) [.slice (some ⟨wA.heap.size,0,none⟩) 0 cs.size] 1 (wA.alloc (.cells cs 5)) _ hal (by simp)
     have e2:(wA.alloc (.cells cs 5)).setCells g' 1 [.slice (some ⟨wA.heap.size,0,none⟩) 0 cs.size]=(wA.alloc (.cells cs 5)).setCell ⟨g',1,none⟩ (.slice (some ⟨wA.heap.size,0,none⟩) 0 cs.size):=rfl
     rw [e2] at t1 t2
     obtain ⟨HC,EC⟩:=grown_heap (A:=some ⟨wA.heap.size,0,none⟩) (c:=cs.size) (wB:=wA.alloc (.cells cs 5)) HA h1 ((Below.refl _ _).alloc (Nat.le_refl _) _)
      ⟨rfl,.inr ⟨wA.heap.size,cs,(0,0),rfl,heap_alloc_new wA _,.inl rfl,Nat.zero_le _,hm,by simp,by simp⟩⟩
      (fun b hb=>by injection hb with hb; subst hb; exact ⟨Nat.le_refl _,by show wA.heap.size<(wA.heap.push _).size; rw [Array.size_push]; omega⟩) t2 (by simpa using t1)
     have ew:((wA.drew.setCell ⟨g',1,none⟩ (.slice (some ⟨wA.heap.size,0,none⟩) 0 cs.size)).alloc (.cells cs 5)).drew.drew.drew=((wA.alloc (.cells cs 5)).setCell ⟨g',1,none⟩ (.slice (some ⟨wA.heap.size,0,none⟩) 0 cs.size)).drew.drew.drew.drew:=by
      rw [World.setCell_alloc_past (w:=wA) _ g' 1 _ hgl]; rfl
     rw [ew]
     obtain ⟨HD,ED⟩:=HC.same (S' := S) ((Below.refl _ _).drew.drew.drew.drew) (fun _ h=>h) (fun _ h=>.inl h)
     exact ⟨_,S,_,rfl,⟨[],rfl,rfl,fun i hi=>by simp at hi⟩,HD,(EA.trans EC).trans ED,fun b hb=>.inl hb⟩
   rcases selfX_or hX with rfl | rfl
   ·have hxx:x=.pointer none:=by cases c1; rfl
    subst hxx
    exact fin _ (copyCheck_fresh g' w (by simp [World.cell?,k2]) (by simp [World.shape?,k2]) (by simp [World.frozen?,k2])) s1 (by simp [World.setCell]) HA EA
   ·have hxx:x=.pointer (some ⟨g',0,none⟩):=by
     cases c1 with
     | ref _ _ _ g2 L2 q1 q2 =>
     rw [h1] at q1; injection q1 with q1; subst q1
     injection q2 with q2; injection q2 with q2; subst q2
     rfl
    subst hxx
    exact fin w (copyCheck_used g' w (by simp [World.cell?,k2])) k2 rfl H (Ext.refl _ _ _)
  ·cases hs
 ·cases hs
end Go.Proofs.YtgaehhechonegaaGreatDoor
