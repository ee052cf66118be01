import Derived.Test.YtakolikdebfkeaaGreatDoorChecked
import Derived.Test.YtakolikdebfkeaaGreatDoorQAM9
open Nat (reduceDiv reduceMod reduceSub reduceAdd reduceLeDiff reduceEqDiff)
set_option linter.all false
namespace Go.Proofs.YtakolikdebfkeaaGreatDoor
open Go.RowKit
def c_ibit:ACode:=(.seq (.reg none [oS 2 (.mv (.c (.int .i64 0)))]) (.seq (.seq (.reg (some [(0,false),(1,false),(2,false),(3,false),(4,false),(5,false),(6,false),(7,false),(8,false),(9,false),(10,true)]) [oS 4 (.mv (.t 0)),oS 5 (.nck (.t 4)),oS 6 (.fa 1 (.t 5)),oS 7 (.ld (.one (.int .i64 0)) (.t 6)),oS 8 (.mv (.t 0)),oS 9 (.nck (.t 8)),oS 10 (.fa 0 (.t 9)),oS 11 (.ld (.one (.con (.slice none 0 0))) (.t 10)),oS 12 (.len none false (.t 11)),oS 13 (.bin .mul (.c (.int .i64 8)) (.t 12)),oS 14 (.bin .geq (.t 7) (.t 13))]) (.cond (.t 14) (.reg none [oS 15 (.call 128 [(.c (.int .i64 3))])]) .skip)) (.seq (.reg (some [(0,false),(1,false),(2,false),(3,false),(4,false),(5,false),(6,false),(7,false),(8,false),(9,false),(10,false),(11,false),(12,false),(13,false),(14,false),(15,false),(16,true),(17,true),(18,true),(19,true)]) [oS 16 (.mv (.t 0)),oS 17 (.nck (.t 16)),oS 18 (.fa 0 (.t 17)),oS 19 (.ld (.one (.con (.slice none 0 0))) (.t 18)),oS 20 (.mv (.t 0)),oS 21 (.nck (.t 20)),oS 22 (.fa 1 (.t 21)),oS 23 (.ld (.one (.int .i64 0)) (.t 22)),oS 24 (.bin .quo (.t 23) (.c (.int .i64 8))),oS 25 (.ia 1 (.int .u8 0) (.t 19) (.t 24)),oS 26 (.ld (.one (.int .u8 0)) (.t 25)),oS 27 (.mv (.t 0)),oS 28 (.nck (.t 27)),oS 29 (.fa 1 (.t 28)),oS 30 (.ld (.one (.int .i64 0)) (.t 29)),oS 31 (.bin .rem (.t 30) (.c (.int .i64 8))),oS 32 (.bin .shr (.t 26) (.t 31)),oS 33 (.toInt .i64 (.t 32)),oS 34 (.bin .and (.t 33) (.c (.int .i64 1))),oS 3 (.mv (.t 34))]) (.seq (.reg none [oS 35 (.mv (.t 0)),oS 36 (.nck (.t 35)),oS 37 (.fa 1 (.t 36)),oS 38 (.ld (.one (.int .i64 0)) (.t 37)),oS 39 (.bin .add (.t 38) (.c (.int .i64 1))),oS 40 (.nck (.t 35)),oS 41 (.fa 1 (.t 40)),oN (.st (.one (.int .i64 0)) (.t 41) (.t 39))]) (.seq (.reg none [oS 42 (.mv (.t 3)),oS 2 (.mv (.t 42))]) .ret)))))
def r_ibit:List ARes:=[(.t 2)]
theorem s_ibit:slimF Tryz.prog Tryz.f122=some (c_ibit,r_ibit):=by kernel_rfl
def b_inum_0:ACode:=(.seq (.reg none [oS 9 (.bin .lss (.t 8) (.t 7))]) (.seq (.cond (.t 9) .skip (.exit 0)) (.seq (.block 1 (.seq (.reg none [oS 10 (.mv (.t 8)),oS 6 (.mv (.t 10))]) (.reg none [oS 11 (.mv (.t 5)),oS 12 (.mv (.t 0)),oS 13 (.call 122 [(.t 12)]),oS 14 (.mv (.t 6)),oS 15 (.bin .shl (.t 13) (.t 14)),oS 16 (.bin .or (.t 11) (.t 15)),oS 5 (.mv (.t 16))]))) (.reg none [oS 17 (.bin .add (.t 8) (.c (.int .i64 1))),oS 8 (.mv (.t 17))]))))
def t_inum_0:ACode:=(.seq (.reg none [oS 18 (.mv (.t 5)),oS 4 (.mv (.t 18))]) .ret)
def c_inum:ACode:=(.seq (.reg none [oS 4 (.mv (.c (.int .i64 0)))]) (.seq (.reg none [oS 5 (.mv (.c (.int .i64 0)))]) (.seq (.seq (.reg none [oS 7 (.mv (.t 1)),oS 8 (.mv (.c (.int .i64 0)))]) (.block 0 (.loop b_inum_0))) t_inum_0)))
def r_inum:List ARes:=[(.t 4)]
theorem s_inum:slimF Tryz.prog Tryz.f123=some (c_inum,r_inum):=by kernel_rfl
def c_ifail:ACode:=(.reg none [oS 2 (.mv (.t 0)),oS 3 (.build [(1,(.int .i64 0))] [(0,(1,(.t 2)))]),oS 4 (.mkif 179 (.t 3)),oN (.pan (.t 4))])
def r_ifail:List ARes:=[]
theorem s_ifail:slimF Tryz.prog Tryz.f128=some (c_ifail,r_ifail):=by kernel_rfl
def b_imade_0:ACode:=(.seq (.reg none [oS 19 (.bin .lss (.t 18) (.t 17))]) (.seq (.cond (.t 19) .skip (.exit 2)) (.seq (.block 3 (.seq (.reg none [oS 20 (.mv (.t 18)),oS 21 (.ia 1 (.int .i64 0) (.t 16) (.t 18)),oS 22 (.ld (.one (.int .i64 0)) (.t 21)),oS 7 (.mv (.t 20)),oS 8 (.mv (.t 22))]) (.seq (.reg none [oS 23 (.mv (.t 8)),oS 24 (.mv (.t 6)),oS 25 (.bin .eql (.t 23) (.t 24))]) (.cond (.t 25) (.seq (.reg none [oS 26 (.mv (.t 6)),oS 27 (.fa 0 (.t 5)),oS 28 (.iaA 16 (.t 27) (.t 26)),oS 29 (.ld (.one (.int .i64 0)) (.t 28)),oS 30 (.bin .add (.t 29) (.c (.int .i64 1))),oS 31 (.fa 0 (.t 5)),oS 32 (.iaA 16 (.t 31) (.t 26)),oN (.st (.one (.int .i64 0)) (.t 32) (.t 30))]) (.reg none [oS 33 (.fa 16 (.t 5)),oS 34 (.ld (.one (.con (.slice none 0 0))) (.t 33)),oS 35 (.mv (.t 7)),oS 36 (.buildSl 3 1 [(.t 35)]),oS 37 (.app 3 1 8 (.t 34) (.t 36)),oS 38 (.fa 16 (.t 5)),oN (.st (.one (.con (.slice none 0 0))) (.t 38) (.t 37))])) .skip)))) (.reg none [oS 39 (.bin .add (.t 18) (.c (.int .i64 1))),oS 18 (.mv (.t 39))]))))
def t_imade_0:ACode:=(.reg none [oS 14 (.mv (.t 6)),oS 15 (.bin .add (.t 14) (.c (.int .i64 1))),oS 6 (.mv (.t 15))])
def b_imade_1:ACode:=(.seq (.seq (.reg none [oS 12 (.mv (.t 6)),oS 13 (.bin .lss (.t 12) (.c (.int .i64 16)))]) (.cond (.t 13) .skip (.exit 0))) (.seq (.block 1 (.seq (.reg none [oS 16 (.mv (.t 0)),oS 17 (.len none false (.t 16)),oS 18 (.mv (.c (.int .i64 0)))]) (.block 2 (.loop b_imade_0)))) t_imade_0))
def b_imade_2:ACode:=(.seq (.seq (.reg none [oS 40 (.mv (.t 10)),oS 41 (.bin .lss (.t 40) (.c (.int .i64 16)))]) (.cond (.t 41) .skip (.exit 4))) (.seq (.block 5 (.reg none [oS 44 (.mv (.t 9)),oS 45 (.mv (.t 10)),oS 46 (.fa 0 (.t 5)),oS 47 (.iaA 16 (.t 46) (.t 45)),oS 48 (.ld (.one (.int .i64 0)) (.t 47)),oS 49 (.mv (.t 10)),oS 50 (.bin .sub (.c (.int .i64 15)) (.t 49)),oS 51 (.bin .shl (.t 48) (.t 50)),oS 52 (.bin .add (.t 44) (.t 51)),oS 9 (.mv (.t 52))])) (.reg none [oS 42 (.mv (.t 10)),oS 43 (.bin .add (.t 42) (.c (.int .i64 1))),oS 10 (.mv (.t 43))])))
def t_imade_1:ACode:=(.seq (.reg none [oS 53 (.mv (.t 9)),oS 54 (.bin .eql (.t 53) (.c (.int .i64 32768))),oS 55 (.mv (.t 54)),oH 56 (.fa 16 (.t 5)) 55,oH 57 (.ld (.one (.con (.slice none 0 0))) (.t 56)) 55,oH 58 (.len none false (.t 57)) 55,oH 59 (.bin .eql (.t 58) (.c (.int .i64 1))) 55,oH 60 (.mv (.t 59)) 55,oG 61 (.fa 0 (.t 5)) 60,oG 62 (.iaA 16 (.t 61) (.c (.int .i64 1))) 60,oG 63 (.ld (.one (.int .i64 0)) (.t 62)) 60,oG 64 (.bin .eql (.t 63) (.c (.int .i64 1))) 60,oH 65 (.pick (.t 60) (.t 64) (.c (.bool false))) 55,oS 66 (.pick (.t 55) (.c (.bool true)) (.t 65)),oS 67 (.mv (.t 66)),oH 68 (.mv (.t 1)) 67,oH 69 (.mv (.t 68)) 67,oG 70 (.fa 16 (.t 5)) 69,oG 71 (.ld (.one (.con (.slice none 0 0))) (.t 70)) 69,oG 72 (.len none false (.t 71)) 69,oG 73 (.bin .eql (.t 72) (.c (.int .i64 0))) 69,oH 74 (.pick (.t 69) (.t 73) (.c (.bool false))) 67,oS 75 (.pick (.t 67) (.c (.bool true)) (.t 74)),oS 11 (.mv (.t 75))]) (.seq (.seq (.reg none [oS 76 (.mv (.t 11)),oS 77 (.un .not (.t 76))]) (.cond (.t 77) (.reg none [oS 78 (.call 128 [(.c (.int .i64 4))])]) .skip)) (.seq (.reg none [oS 79 (.ld (.st 17) (.t 5)),oN (.st (.st 17) (.t 4) (.t 79))]) .ret)))
def t_imade_2:ACode:=(.seq (.reg none [oS 9 (.mv (.c (.int .i64 0)))]) (.seq (.seq (.reg none [oS 10 (.mv (.c (.int .i64 1)))]) (.block 4 (.loop b_imade_2))) t_imade_1))
def c_imade:ACode:=(.seq (.reg none [oS 4 (.new 189 [(16,(.blob (List.replicate 16 (.int .i64 0)))),(1,(.con (.slice none 0 0)))])]) (.seq (.reg none [oS 5 (.new 189 [(16,(.blob (List.replicate 16 (.int .i64 0)))),(1,(.con (.slice none 0 0)))])]) (.seq (.seq (.reg none [oS 6 (.mv (.c (.int .i64 1)))]) (.block 0 (.loop b_imade_1))) t_imade_2)))
def r_imade:List ARes:=[(.c 4 (.st 17))]
theorem s_imade:slimF Tryz.prog Tryz.f157=some (c_imade,r_imade):=by kernel_rfl
def b_isign_0:ACode:=(.seq (.seq (.reg none [oS 9 (.mv (.t 8)),oS 10 (.bin .lss (.t 9) (.c (.int .i64 16)))]) (.cond (.t 10) .skip (.exit 0))) (.seq (.block 1 (.seq (.reg none [oS 13 (.mv (.t 5)),oS 14 (.bin .shl (.t 13) (.c (.int .u64 1))),oS 15 (.mv (.t 0)),oS 16 (.call 122 [(.t 15)]),oS 17 (.bin .or (.t 14) (.t 16)),oS 5 (.mv (.t 17))]) (.seq (.reg none [oS 18 (.mv (.t 6)),oS 19 (.bin .shl (.t 18) (.c (.int .u64 1))),oS 6 (.mv (.t 19))]) (.seq (.seq (.reg none [oS 20 (.mv (.t 5)),oS 21 (.mv (.t 6)),oS 22 (.bin .sub (.t 20) (.t 21)),oS 23 (.mv (.t 8)),oS 24 (.fa 0 (.t 3)),oS 25 (.iaA 16 (.t 24) (.t 23)),oS 26 (.ld (.one (.int .i64 0)) (.t 25)),oS 27 (.bin .lss (.t 22) (.t 26))]) (.cond (.t 27) (.seq (.reg none [oS 28 (.fa 16 (.t 3)),oS 29 (.ld (.one (.con (.slice none 0 0))) (.t 28)),oS 30 (.mv (.t 7)),oS 31 (.mv (.t 5)),oS 32 (.bin .add (.t 30) (.t 31)),oS 33 (.mv (.t 6)),oS 34 (.bin .sub (.t 32) (.t 33)),oS 35 (.ia 1 (.int .i64 0) (.t 29) (.t 34)),oS 36 (.ld (.one (.int .i64 0)) (.t 35)),oS 4 (.mv (.t 36))]) .ret) .skip)) (.seq (.reg none [oS 37 (.mv (.t 7)),oS 38 (.mv (.t 8)),oS 39 (.fa 0 (.t 3)),oS 40 (.iaA 16 (.t 39) (.t 38)),oS 41 (.ld (.one (.int .i64 0)) (.t 40)),oS 42 (.bin .add (.t 37) (.t 41)),oS 7 (.mv (.t 42))]) (.seq (.reg none [oS 43 (.mv (.t 6)),oS 44 (.mv (.t 8)),oS 45 (.fa 0 (.t 3)),oS 46 (.iaA 16 (.t 45) (.t 44)),oS 47 (.ld (.one (.int .i64 0)) (.t 46)),oS 48 (.bin .add (.t 43) (.t 47)),oS 6 (.mv (.t 48))]) (.seq (.reg none [oS 49 (.mv (.t 7)),oS 50 (.fa 16 (.t 3)),oS 51 (.ld (.one (.con (.slice none 0 0))) (.t 50)),oS 52 (.len none false (.t 51)),oS 53 (.bin .eql (.t 49) (.t 52))]) (.cond (.t 53) (.exit 0) .skip)))))))) (.reg none [oS 11 (.mv (.t 8)),oS 12 (.bin .add (.t 11) (.c (.int .i64 1))),oS 8 (.mv (.t 12))])))
def t_isign_0:ACode:=(.seq (.reg none [oS 54 (.call 128 [(.c (.int .i64 4))])]) (.seq (.reg none [oS 4 (.mv (.c (.int .i64 0)))]) .ret))
def c_isign:ACode:=(.seq (.reg none [oS 3 (.box 189 17 (.t 1)),oS 4 (.mv (.c (.int .i64 0)))]) (.seq (.reg none [oS 5 (.mv (.c (.int .i64 0))),oS 6 (.mv (.c (.int .i64 0))),oS 7 (.mv (.c (.int .i64 0)))]) (.seq (.seq (.reg none [oS 8 (.mv (.c (.int .i64 1)))]) (.block 0 (.loop b_isign_0))) t_isign_0)))
def r_isign:List ARes:=[(.t 4)]
theorem s_isign:slimF Tryz.prog Tryz.f154=some (c_isign,r_isign):=by kernel_rfl
def c_iput:ACode:=(.seq (.seq (.reg (some [(0,false),(1,false),(2,false),(3,false),(4,false),(5,false),(6,false),(7,false),(8,false),(9,true)]) [oS 4 (.mv (.t 0)),oS 5 (.nck (.t 4)),oS 6 (.fa 2 (.t 5)),oS 7 (.ld (.one (.con (.slice none 0 0))) (.t 6)),oS 8 (.len none false (.t 7)),oS 9 (.mv (.t 0)),oS 10 (.nck (.t 9)),oS 11 (.fa 3 (.t 10)),oS 12 (.ld (.one (.int .i64 0)) (.t 11)),oS 13 (.bin .geq (.t 8) (.t 12))]) (.cond (.t 13) (.reg none [oS 14 (.call 128 [(.c (.int .i64 2))])]) .skip)) (.reg none [oS 15 (.mv (.t 0)),oS 16 (.mv (.t 0)),oS 17 (.nck (.t 16)),oS 18 (.fa 2 (.t 17)),oS 19 (.ld (.one (.con (.slice none 0 0))) (.t 18)),oS 20 (.mv (.t 1)),oS 21 (.buildSl 5 1 [(.t 20)]),oS 22 (.app 5 1 1 (.t 19) (.t 21)),oS 23 (.nck (.t 15)),oS 24 (.fa 2 (.t 23)),oN (.st (.one (.con (.slice none 0 0))) (.t 24) (.t 22))]))
def r_iput:List ARes:=[]
theorem s_iput:slimF Tryz.prog Tryz.f153=some (c_iput,r_iput):=by kernel_rfl
def b_istor_0:ACode:=(.seq (.reg none [oS 29 (.bin .lss (.t 28) (.t 27))]) (.seq (.cond (.t 29) .skip (.exit 0)) (.seq (.block 1 (.reg none [oS 30 (.mv (.t 0)),oS 31 (.mv (.t 0)),oS 32 (.nck (.t 31)),oS 33 (.fa 0 (.t 32)),oS 34 (.call 123 [(.t 33),(.c (.int .i64 8))]),oS 35 (.toInt .u8 (.t 34)),oS 36 (.call 153 [(.t 30),(.t 35)])])) (.reg none [oS 37 (.bin .add (.t 28) (.c (.int .i64 1))),oS 28 (.mv (.t 37))]))))
def c_istor:ACode:=(.seq (.reg none [oS 3 (.mv (.t 0)),oS 4 (.mv (.t 0)),oS 5 (.nck (.t 4)),oS 6 (.fa 0 (.t 5)),oS 7 (.fa 1 (.t 6)),oS 8 (.ld (.one (.int .i64 0)) (.t 7)),oS 9 (.bin .add (.t 8) (.c (.int .i64 7))),oS 10 (.bin .quo (.t 9) (.c (.int .i64 8))),oS 11 (.bin .mul (.t 10) (.c (.int .i64 8))),oS 12 (.nck (.t 3)),oS 13 (.fa 0 (.t 12)),oS 14 (.fa 1 (.t 13)),oN (.st (.one (.int .i64 0)) (.t 14) (.t 11))]) (.seq (.reg none [oS 15 (.mv (.t 0)),oS 16 (.nck (.t 15)),oS 17 (.fa 0 (.t 16)),oS 18 (.call 123 [(.t 17),(.c (.int .i64 16))]),oS 2 (.mv (.t 18))]) (.seq (.seq (.reg none [oS 19 (.mv (.t 0)),oS 20 (.nck (.t 19)),oS 21 (.fa 0 (.t 20)),oS 22 (.call 123 [(.t 21),(.c (.int .i64 16))]),oS 23 (.mv (.t 2)),oS 24 (.bin .sub (.c (.int .i64 65535)) (.t 23)),oS 25 (.bin .neq (.t 22) (.t 24))]) (.cond (.t 25) (.reg none [oS 26 (.call 128 [(.c (.int .i64 4))])]) .skip)) (.seq (.reg none [oS 27 (.mv (.t 2)),oS 28 (.mv (.c (.int .i64 0)))]) (.block 0 (.loop b_istor_0))))))
def r_istor:List ARes:=[]
theorem s_istor:slimF Tryz.prog Tryz.f124=some (c_istor,r_istor):=by kernel_rfl
def c_ilen:ACode:=(.seq (.reg none [oS 4 (.mv (.c (.int .i64 0)))]) (.seq (.reg none [oS 7 (.mv (.t 1)),oS 8 (.bin .sub (.t 7) (.c (.int .i64 257))),oS 5 (.mv (.t 8))]) (.seq (.block 0 (.seq (.reg none [oS 10 (.mv (.t 5)),oS 11 (.bin .lss (.t 10) (.c (.int .i64 8))),oS 9 (.mv (.t 11))]) (.cond (.t 9) (.seq (.reg none [oS 12 (.mv (.t 5)),oS 13 (.bin .add (.t 12) (.c (.int .i64 3))),oS 4 (.mv (.t 13))]) .ret) (.seq (.reg none [oS 15 (.mv (.t 5)),oS 16 (.bin .eql (.t 15) (.c (.int .i64 28))),oS 14 (.mv (.t 16))]) (.cond (.t 14) (.seq (.reg none [oS 4 (.mv (.c (.int .i64 258)))]) .ret) (.seq (.reg none [oS 18 (.mv (.t 5)),oS 19 (.bin .gtr (.t 18) (.c (.int .i64 28))),oS 17 (.mv (.t 19))]) (.cond (.t 17) (.reg none [oS 20 (.call 128 [(.c (.int .i64 4))])]) .skip))))))) (.seq (.reg none [oS 21 (.mv (.t 5)),oS 22 (.bin .quo (.t 21) (.c (.int .i64 4))),oS 23 (.bin .sub (.t 22) (.c (.int .i64 1))),oS 6 (.mv (.t 23))]) (.seq (.reg (some [(0,false),(1,false),(2,false),(3,false),(4,false),(5,false),(6,true),(7,true),(8,true),(9,false),(10,true),(11,true),(12,true)]) [oS 24 (.mv (.t 5)),oS 25 (.bin .rem (.t 24) (.c (.int .i64 4))),oS 26 (.bin .add (.c (.int .i64 4)) (.t 25)),oS 27 (.mv (.t 6)),oS 28 (.bin .shl (.t 26) (.t 27)),oS 29 (.bin .add (.c (.int .i64 3)) (.t 28)),oS 30 (.mv (.t 0)),oS 31 (.nck (.t 30)),oS 32 (.fa 0 (.t 31)),oS 33 (.mv (.t 6)),oS 34 (.call 123 [(.t 32),(.t 33)]),oS 35 (.bin .add (.t 29) (.t 34)),oS 4 (.mv (.t 35))]) .ret)))))
def r_ilen:List ARes:=[(.t 4)]
theorem s_ilen:slimFA Tryz.prog Tryz.f155=some (c_ilen,r_ilen):=by kernel_rfl
def c_idist:ACode:=(.seq (.reg none [oS 4 (.mv (.c (.int .i64 0)))]) (.seq (.block 0 (.seq (.reg none [oS 7 (.mv (.t 1)),oS 8 (.bin .lss (.t 7) (.c (.int .i64 4))),oS 6 (.mv (.t 8))]) (.cond (.t 6) (.seq (.reg none [oS 9 (.mv (.t 1)),oS 10 (.bin .add (.t 9) (.c (.int .i64 1))),oS 4 (.mv (.t 10))]) .ret) (.seq (.reg none [oS 12 (.mv (.t 1)),oS 13 (.bin .gtr (.t 12) (.c (.int .i64 29))),oS 11 (.mv (.t 13))]) (.cond (.t 11) (.reg none [oS 14 (.call 128 [(.c (.int .i64 4))])]) .skip))))) (.seq (.reg none [oS 15 (.mv (.t 1)),oS 16 (.bin .quo (.t 15) (.c (.int .i64 2))),oS 17 (.bin .sub (.t 16) (.c (.int .i64 1))),oS 5 (.mv (.t 17))]) (.seq (.reg (some [(0,false),(1,false),(2,false),(3,false),(4,false),(5,false),(6,true),(7,true),(8,true),(9,false),(10,true),(11,true),(12,true)]) [oS 18 (.mv (.t 1)),oS 19 (.bin .rem (.t 18) (.c (.int .i64 2))),oS 20 (.bin .add (.c (.int .i64 2)) (.t 19)),oS 21 (.mv (.t 5)),oS 22 (.bin .shl (.t 20) (.t 21)),oS 23 (.bin .add (.c (.int .i64 1)) (.t 22)),oS 24 (.mv (.t 0)),oS 25 (.nck (.t 24)),oS 26 (.fa 0 (.t 25)),oS 27 (.mv (.t 5)),oS 28 (.call 123 [(.t 26),(.t 27)]),oS 29 (.bin .add (.t 23) (.t 28)),oS 4 (.mv (.t 29))]) .ret))))
def r_idist:List ARes:=[(.t 4)]
theorem s_idist:slimFA Tryz.prog Tryz.f156=some (c_idist,r_idist):=by kernel_rfl
def b_isigns_0:ACode:=(.seq (.reg none [oS 39 (.bin .lss (.t 38) (.t 37))]) (.seq (.cond (.t 39) .skip (.exit 3)) (.seq (.block 4 (.reg (some [(0,false),(1,false),(2,false),(3,false),(4,false),(5,false),(6,false),(7,false),(8,false),(9,false),(10,false),(11,false),(12,false),(13,false),(14,true)]) [oS 40 (.mv (.t 0)),oS 41 (.mv (.t 0)),oS 42 (.nck (.t 41)),oS 43 (.fa 2 (.t 42)),oS 44 (.ld (.one (.con (.slice none 0 0))) (.t 43)),oS 45 (.mv (.t 0)),oS 46 (.nck (.t 45)),oS 47 (.fa 2 (.t 46)),oS 48 (.ld (.one (.con (.slice none 0 0))) (.t 47)),oS 49 (.len none false (.t 48)),oS 50 (.mv (.t 8)),oS 51 (.bin .sub (.t 49) (.t 50)),oS 52 (.ia 1 (.int .u8 0) (.t 44) (.t 51)),oS 53 (.ld (.one (.int .u8 0)) (.t 52)),oS 54 (.call 153 [(.t 40),(.t 53)])])) (.reg none [oS 55 (.bin .add (.t 38) (.c (.int .i64 1))),oS 38 (.mv (.t 55))]))))
def b_isigns_1:ACode:=(.block 1 (.seq (.reg (some [(0,false),(1,false),(2,false),(3,false),(4,true),(5,true)]) [oS 9 (.mv (.t 0)),oS 10 (.nck (.t 9)),oS 11 (.fa 0 (.t 10)),oS 12 (.ld (.st 17) (.t 4)),oS 13 (.call 154 [(.t 11),(.t 12)]),oS 6 (.mv (.t 13))]) (.block 2 (.seq (.reg none [oS 57 (.mv (.t 6)),oS 58 (.bin .lss (.t 57) (.c (.int .i64 256))),oS 56 (.mv (.t 58))]) (.cond (.t 56) (.reg none [oS 59 (.mv (.t 0)),oS 60 (.mv (.t 6)),oS 61 (.toInt .u8 (.t 60)),oS 62 (.call 153 [(.t 59),(.t 61)])]) (.seq (.reg none [oS 64 (.mv (.t 6)),oS 65 (.bin .eql (.t 64) (.c (.int .i64 256))),oS 63 (.mv (.t 65))]) (.cond (.t 63) .ret (.seq (.reg none [oS 14 (.mv (.t 0)),oS 15 (.mv (.t 6)),oS 16 (.call 155 [(.t 14),(.t 15)]),oS 7 (.mv (.t 16))]) (.seq (.seq (.reg none [oS 17 (.fa 16 (.t 5)),oS 18 (.ld (.one (.con (.slice none 0 0))) (.t 17)),oS 19 (.len none false (.t 18)),oS 20 (.bin .eql (.t 19) (.c (.int .i64 0)))]) (.cond (.t 20) (.reg none [oS 21 (.call 128 [(.c (.int .i64 4))])]) .skip)) (.seq (.reg (some [(0,false),(1,false),(2,false),(3,false),(4,false),(5,true),(6,true),(7,true)]) [oS 22 (.mv (.t 0)),oS 23 (.mv (.t 0)),oS 24 (.nck (.t 23)),oS 25 (.fa 0 (.t 24)),oS 26 (.ld (.st 17) (.t 5)),oS 27 (.call 154 [(.t 25),(.t 26)]),oS 28 (.call 156 [(.t 22),(.t 27)]),oS 8 (.mv (.t 28))]) (.seq (.seq (.reg none [oS 29 (.mv (.t 8)),oS 30 (.mv (.t 0)),oS 31 (.nck (.t 30)),oS 32 (.fa 2 (.t 31)),oS 33 (.ld (.one (.con (.slice none 0 0))) (.t 32)),oS 34 (.len none false (.t 33)),oS 35 (.bin .gtr (.t 29) (.t 34))]) (.cond (.t 35) (.reg none [oS 36 (.call 128 [(.c (.int .i64 4))])]) .skip)) (.seq (.reg none [oS 37 (.mv (.t 7)),oS 38 (.mv (.c (.int .i64 0)))]) (.block 3 (.loop b_isigns_0))))))))))))))
def c_isigns:ACode:=(.seq (.reg none [oS 4 (.box 189 17 (.t 1)),oS 5 (.box 189 17 (.t 2))]) (.block 0 (.loop b_isigns_1)))
def r_isigns:List ARes:=[]
theorem s_isigns:slimFA Tryz.prog Tryz.f125=some (c_isigns,r_isigns):=by kernel_rfl
def b_ifix_0:ACode:=(.seq (.reg none [oS 6 (.bin .lss (.t 5) (.c (.int .i64 288)))]) (.seq (.cond (.t 6) .skip (.exit 0)) (.seq (.block 1 (.seq (.reg none [oS 7 (.mv (.t 5)),oS 4 (.mv (.t 7))]) (.block 2 (.seq (.seq (.reg none [oS 12 (.mv (.t 4)),oS 13 (.bin .lss (.t 12) (.c (.int .i64 144))),oS 11 (.mv (.t 13))]) (.cond (.t 11) .skip (.reg none [oS 14 (.mv (.t 4)),oS 15 (.bin .gtr (.t 14) (.c (.int .i64 279))),oS 11 (.mv (.t 15))]))) (.cond (.t 11) (.reg none [oS 16 (.mv (.t 2)),oS 17 (.buildSl 3 1 [(.c (.int .i64 8))]),oS 18 (.app 3 1 8 (.t 16) (.t 17)),oS 2 (.mv (.t 18))]) (.seq (.reg none [oS 20 (.mv (.t 4)),oS 21 (.bin .lss (.t 20) (.c (.int .i64 256))),oS 19 (.mv (.t 21))]) (.cond (.t 19) (.reg none [oS 22 (.mv (.t 2)),oS 23 (.buildSl 3 1 [(.c (.int .i64 9))]),oS 24 (.app 3 1 8 (.t 22) (.t 23)),oS 2 (.mv (.t 24))]) (.reg none [oS 8 (.mv (.t 2)),oS 9 (.buildSl 3 1 [(.c (.int .i64 7))]),oS 10 (.app 3 1 8 (.t 8) (.t 9)),oS 2 (.mv (.t 10))])))))))) (.reg none [oS 25 (.bin .add (.t 5) (.c (.int .i64 1))),oS 5 (.mv (.t 25))]))))
def b_ifix_1:ACode:=(.seq (.reg none [oS 27 (.bin .lss (.t 26) (.c (.int .i64 32)))]) (.seq (.cond (.t 27) .skip (.exit 3)) (.seq (.block 4 (.reg none [oS 28 (.mv (.t 3)),oS 29 (.buildSl 3 1 [(.c (.int .i64 5))]),oS 30 (.app 3 1 8 (.t 28) (.t 29)),oS 3 (.mv (.t 30))])) (.reg none [oS 31 (.bin .add (.t 26) (.c (.int .i64 1))),oS 26 (.mv (.t 31))]))))
def t_ifix_0:ACode:=(.seq (.reg none [oS 32 (.mv (.t 2)),oS 33 (.call 157 [(.t 32),(.c (.bool false))]),oS 34 (.mv (.t 3)),oS 35 (.call 157 [(.t 34),(.c (.bool false))]),oN (.st (.st 17) (.t 0) (.t 33)),oN (.st (.st 17) (.t 1) (.t 35))]) .ret)
def t_ifix_1:ACode:=(.seq (.seq (.reg none [oS 26 (.mv (.c (.int .i64 0)))]) (.block 3 (.loop b_ifix_1))) t_ifix_0)
def c_ifix:ACode:=(.seq (.reg none [oS 0 (.new 189 [(16,(.blob (List.replicate 16 (.int .i64 0)))),(1,(.con (.slice none 0 0)))]),oS 1 (.new 189 [(16,(.blob (List.replicate 16 (.int .i64 0)))),(1,(.con (.slice none 0 0)))])]) (.seq (.reg none [oS 2 (.mv (.c (.con (.slice none 0 0)))),oS 3 (.mv (.c (.con (.slice none 0 0))))]) (.seq (.seq (.reg none [oS 5 (.mv (.c (.int .i64 0)))]) (.block 0 (.loop b_ifix_0))) t_ifix_1)))
def r_ifix:List ARes:=[(.c 0 (.st 17)),(.c 1 (.st 17))]
theorem s_ifix:slimF Tryz.prog Tryz.f126=some (c_ifix,r_ifix):=by kernel_rfl
def cntL (ls:List Nat) (l:Nat):Nat:=ls.count l
def fstL (ls:List Nat):Nat→Nat
 | 0=>0
 | l+1=>2 * (fstL ls l+if l=0 then 0 else cntL ls l)
def krL (ls:List Nat) (l:Nat):Nat:=fstL ls l+if l=0 then 0 else cntL ls l
theorem fstL_succ (ls:List Nat) (l:Nat):fstL ls (l+1)=2 * krL ls l:=rfl
theorem kr_mono (ls:List Nat) (l k:Nat):krL ls l * 2 ^ k≤krL ls (l+k):=by
 induction k with
 | zero=>simp
 | succ k ih =>
  have:krL ls (l+k+1)=fstL ls (l+k+1)+cntL ls (l+k+1):=by unfold krL; simp
  have h2:=fstL_succ ls (l+k)
  rw [Nat.pow_succ,← Nat.mul_assoc,show l+(k+1)=l+k+1 by omega,this,h2]
  omega
def roomL (ls:List Nat):Prop:=krL ls 15≤32768
theorem kr_le {ls:List Nat} (h:roomL ls) {l:Nat} (hl:l≤15):krL ls l≤2 ^ l:=by
 have h1:=kr_mono ls l (15 - l)
 rw [show l+(15 - l)=15 by omega] at h1
 have h2:krL ls l * 2 ^ (15 - l)≤2 ^ l * 2 ^ (15 - l):=by
  rw [← Nat.pow_add,show l+(15 - l)=15 by omega]; exact Nat.le_trans h1 h
 exact Nat.le_of_mul_le_mul_right h2 (Nat.pow_pos (by omega))
def nxtL (ls:List Nat) (n i:Nat):Nat:=fstL ls n+(ls.take i).count n
theorem nxt_len {ls:List Nat} {n:Nat} (hn:0<n):nxtL ls n ls.length=krL ls n:=by
 unfold nxtL krL
 rw [List.take_length,if_neg (by omega)]; rfl
theorem nxt_zero (ls:List Nat) (n:Nat):nxtL ls n 0=fstL ls n:=by simp [nxtL]
theorem nxt_hit {ls:List Nat} {n i:Nat} (hi:i<ls.length) (h:ls[i]=n):nxtL ls n (i+1)=nxtL ls n i+1:=by
 unfold nxtL
 rw [List.take_add_one,List.getElem?_eq_getElem hi,Option.toList_some,List.count_append,h]
 simp; omega
theorem nxt_miss {ls:List Nat} {n i:Nat} (hi:i<ls.length) (h:ls[i]≠n):nxtL ls n (i+1)=nxtL ls n i:=by
 unfold nxtL
 have e:[ls[i]].count n=0:=List.count_eq_zero.2 (by simpa using Ne.symm h)
 rw [List.take_add_one,List.getElem?_eq_getElem hi,Option.toList_some,List.count_append,e]; rfl
theorem count_take_le (ls:List Nat) (n:Nat) {i:Nat} (hi:i<ls.length) (h:ls[i]=n):(ls.take i).count n+1≤ls.count n:=by
 have h1:(ls.take (i+1)).count n=(ls.take i).count n+1:=by
  rw [List.take_add_one,List.getElem?_eq_getElem hi,Option.toList_some,List.count_append,h]; simp
 rw [← h1]
 exact (List.take_sublist _ _).count_le _
theorem nxt_lt {ls:List Nat} (hr:roomL ls) {n i:Nat} (hn:0<n) (hn2:n≤15) (hi:i<ls.length) (h:ls[i]=n):nxtL ls n i<2 ^ n:=by
 have h1:=kr_le hr hn2
 have h2:=count_take_le ls n hi h
 unfold krL at h1
 rw [if_neg (by omega)] at h1
 unfold nxtL
 unfold cntL at h1
 omega
def bitsL:Nat→Nat→List UInt8
 | 0,_=>[]
 | n+1,v=>bitsL n (v / 2) ++ [if v % 2=1 then 49 else 48]
theorem bitsL_length:∀ n v,(bitsL n v).length=n
 | 0,_=>rfl
 | n+1,v=>by rw [bitsL,List.length_append,bitsL_length n]; rfl
theorem bitsL_pad (m v:Nat):∀ k,bitsL m v ++ List.replicate k 48=bitsL (m+k) (v * 2 ^ k)
 | 0=>by simp
 | k+1=>by
  have ih:=bitsL_pad m v k
  rw [List.replicate_succ',← List.append_assoc,ih,show m+(k+1)=m+k+1 by omega,bitsL]
  have e:v * 2 ^ (k+1)=2 * (v * 2 ^ k):=by rw [Nat.pow_succ]; ac_rfl
  rw [e,Nat.mul_div_cancel_left _ (by omega),Nat.mul_mod_right,if_neg (by omega)]
theorem bitsL_inj:∀ n {u v:Nat},u<2 ^ n→v<2 ^ n→bitsL n u=bitsL n v→u=v
 | 0,u,v,hu,hv,_=>by simp at hu hv; omega
 | n+1,u,v,hu,hv,h=>by
  rw [bitsL,bitsL] at h
  have h1:=List.append_inj h (by rw [bitsL_length,bitsL_length])
  rw [Nat.pow_succ] at hu hv
  have h2:=bitsL_inj n (by omega) (by omega) h1.1
  have h3:(u % 2=1)↔(v % 2=1):=by
   have:=h1.2
   constructor <;> intro hh <;> simp only [hh,if_true] at this <;> split at this <;> first | assumption | (simp at this)
  omega
def nextR:List UInt8→List UInt8
 | []=>[]
 | b :: r=>if b=48 then 49 :: r else 48 :: nextR r
def nextL (s:List UInt8):List UInt8:=if s.contains 48=true then (nextR s.reverse).reverse else s
def bitsR:Nat→Nat→List UInt8
 | 0,_=>[]
 | n+1,v=>(if v % 2=1 then 49 else 48) :: bitsR n (v / 2)
theorem bitsR_rev:∀ n v,(bitsL n v).reverse=bitsR n v
 | 0,_=>rfl
 | n+1,v=>by rw [bitsL,List.reverse_append,bitsR_rev n]; rfl
theorem nextR_bits:∀ n v,v+1<2 ^ n→nextR (bitsR n v)=bitsR n (v+1)
 | 0,v,h=>by simp at h
 | n+1,v,h=>by
  rw [Nat.pow_succ] at h
  rw [bitsR,bitsR,nextR]
  by_cases hv:v % 2=1
  ·rw [if_pos hv,if_neg (by decide),if_neg (by omega),nextR_bits n (v / 2) (by omega),show (v+1) / 2=v / 2+1 by omega]
  ·rw [if_neg hv,if_pos rfl,if_pos (by omega),show (v+1) / 2=v / 2 by omega]
theorem bits_zero:∀ n v,v+1<2 ^ n→(48:UInt8)∈bitsL n v
 | 0,v,h=>by simp at h
 | n+1,v,h=>by
  rw [Nat.pow_succ] at h
  rw [bitsL]
  by_cases hv:v % 2=1
  ·exact List.mem_append_left _ (bits_zero n (v / 2) (by omega))
  ·rw [if_neg hv]; simp
theorem nextL_bits {n v:Nat} (h:v+1<2 ^ n):nextL (bitsL n v)=bitsL n (v+1):=by
 unfold nextL
 rw [if_pos (List.contains_iff_mem.2 (bits_zero n v h)),bitsR_rev,nextR_bits n v h,← bitsR_rev,List.reverse_reverse]
def lastOk (ls:List Nat) (n i:Nat) (last:List UInt8):Prop :=
 (last=[]∧nxtL ls n i=0)∨∃ m u,0<m∧m≤n∧last=bitsL m u∧u<2 ^ m∧(u+1) * 2 ^ (n - m)=nxtL ls n i
def padL (n:Nat) (s:List UInt8):List UInt8:=s ++ List.replicate (n - s.length) 48
def stepL (n:Nat) (last:List UInt8):List UInt8:=padL n (if last=[] then last else nextL last)
theorem last_hit {ls:List Nat} (hr:roomL ls) {n i:Nat} (hn:0<n) (hn2:n≤15) (hi:i<ls.length) (h:ls[i]=n) {last:List UInt8} (hl:lastOk ls n i last) :
  stepL n last=bitsL n (nxtL ls n i)∧lastOk ls n (i+1) (stepL n last):=by
 have hlt:=nxt_lt hr hn hn2 hi h
 have key:stepL n last=bitsL n (nxtL ls n i):=by
  rcases hl with ⟨rfl,h0⟩ | ⟨m,u,hm,hmn,rfl,hu,he⟩
  ·have:=bitsL_pad 0 0 n
   unfold stepL padL
   rw [if_pos rfl,h0,List.length_nil,Nat.sub_zero]
   simpa [bitsL] using this
  ·have hne:bitsL m u≠[]:=fun hh=>by have:=congrArg List.length hh; rw [bitsL_length] at this; simp at this; omega
   have hu2:u+1<2 ^ m:=by
    have e:2 ^ n=2 ^ m * 2 ^ (n - m):=by rw [← Nat.pow_add,show m+(n - m)=n by omega]
    rw [← he,e] at hlt
    exact Nat.lt_of_mul_lt_mul_right hlt
   unfold stepL padL
   rw [if_neg hne,nextL_bits hu2,bitsL_length,bitsL_pad,he,show m+(n - m)=n by omega]
 refine ⟨key,.inr ⟨n,nxtL ls n i,hn,Nat.le_refl _,key,hlt,?_⟩⟩
 rw [nxt_hit hi h,Nat.sub_self]; simp
theorem last_miss {ls:List Nat} {n i:Nat} (hi:i<ls.length) (h:ls[i]≠n) {last:List UInt8} (hl:lastOk ls n i last):lastOk ls n (i+1) last:=by
 unfold lastOk at hl ⊢
 rw [nxt_miss hi h]; exact hl
theorem last_turn {ls:List Nat} {n:Nat} (hn:0<n) {last:List UInt8} (hl:lastOk ls n ls.length last):lastOk ls (n+1) 0 last:=by
 unfold lastOk at hl ⊢
 rw [nxt_zero,fstL_succ,← nxt_len hn]
 rcases hl with ⟨h1,h2⟩ | ⟨m,u,hm,hmn,h1,hu,he⟩
 ·exact .inl ⟨h1,by omega⟩
 ·refine .inr ⟨m,u,hm,by omega,h1,hu,?_⟩
  rw [show n+1 - m=n - m+1 by omega,Nat.pow_succ,← Nat.mul_assoc,he]; omega
theorem last_begin (ls:List Nat):lastOk ls 1 0 []:=.inl ⟨rfl,by rw [nxt_zero]; rfl⟩
def codeL (ls:List Nat) (i:Nat):List UInt8:=if ls.getD i 0=0 then [] else bitsL (ls.getD i 0) (nxtL ls (ls.getD i 0) i)
def idxU (ls:List Nat) (l k:Nat):List Nat:=(List.range k).filter fun i=>decide (ls.getD i 0=l)
def idxs (ls:List Nat) (l:Nat):List Nat:=idxU ls l ls.length
theorem idxU_succ (ls:List Nat) (l k:Nat):idxU ls l (k+1)=idxU ls l k ++ if ls.getD k 0=l then [k] else []:=by
 unfold idxU
 rw [List.range_succ,List.filter_append]
 congr 1
 by_cases h:ls.getD k 0=l
 ·rw [if_pos h,List.filter_cons_of_pos (by rw [h]; exact decide_eq_true rfl),List.filter_nil]
 ·rw [if_neg h,List.filter_cons_of_neg (by rw [decide_eq_false h]; exact Bool.false_ne_true),List.filter_nil]
theorem take_count (ls:List Nat) (l:Nat) {k:Nat} (hk:k<ls.length):(ls.take (k+1)).count l=(ls.take k).count l+if ls.getD k 0=l then 1 else 0:=by
 have e:ls.getD k 0=ls[k]:=by simp [List.getD_eq_getElem?_getD,List.getElem?_eq_getElem hk]
 rw [List.take_add_one,List.getElem?_eq_getElem hk,Option.toList_some,List.count_append,e]
 by_cases h:ls[k]=l
 ·rw [if_pos h,h]; simp
 ·have e2:[ls[k]].count l=0:=List.count_eq_zero.2 (by simpa using Ne.symm h)
  rw [if_neg h,e2]
theorem idxU_length (ls:List Nat) (l:Nat):∀ k,k≤ls.length→(idxU ls l k).length=(ls.take k).count l
 | 0,_=>by simp [idxU]
 | k+1,hk=>by
  rw [idxU_succ,List.length_append,idxU_length ls l k (by omega),take_count ls l (by omega)]
  by_cases h:ls.getD k 0=l
  ·rw [if_pos h,if_pos h]; rfl
  ·rw [if_neg h,if_neg h]; rfl
theorem idxs_length (ls:List Nat) (l:Nat):(idxs ls l).length=cntL ls l:=by
 unfold idxs cntL
 rw [idxU_length ls l _ (Nat.le_refl _),List.take_length]
theorem idxU_get (ls:List Nat) (l:Nat):∀ k,k≤ls.length→∀ r,r<(ls.take k).count l→∃ i,i<k∧ls.getD i 0=l∧(ls.take i).count l=r∧(idxU ls l k)[r]?=some i
 | 0,_,r,hr=>by simp at hr
 | k+1,hk,r,hr=>by
  have hl:=idxU_length ls l k (by omega)
  rw [take_count ls l (by omega)] at hr
  rw [idxU_succ]
  by_cases h:r<(ls.take k).count l
  ·obtain ⟨i,h1,h2,h3,h4⟩:=idxU_get ls l k (by omega) r h
   exact ⟨i,by omega,h2,h3,by rw [List.getElem?_append_left (by omega)]; exact h4⟩
  ·by_cases hk2:ls.getD k 0=l
   ·rw [if_pos hk2] at hr ⊢
    have:r=(ls.take k).count l:=by omega
    exact ⟨k,by omega,hk2,this.symm,by rw [List.getElem?_append_right (by omega),hl,this,Nat.sub_self]; rfl⟩
   ·rw [if_neg hk2] at hr; omega
theorem sign_at {ls:List Nat} {l n:Nat} (h1:fstL ls l≤n) (h2:n<fstL ls l+cntL ls l) :
  ∃ i,i<ls.length∧ls.getD i 0=l∧nxtL ls l i=n∧(idxs ls l)[n - fstL ls l]?=some i:=by
 obtain ⟨i,a,b,c,d⟩:=idxU_get ls l ls.length (Nat.le_refl _) (n - fstL ls l) (by rw [List.take_length]; unfold cntL at h2; omega)
 exact ⟨i,a,b,by unfold nxtL; omega,d⟩
theorem nxt_bound {ls:List Nat} {l i:Nat} (hi:i<ls.length) (h:ls.getD i 0=l):nxtL ls l i<fstL ls l+cntL ls l:=by
 have e:ls.getD i 0=ls[i]:=by simp [List.getD_eq_getElem?_getD,List.getElem?_eq_getElem hi]
 have:=count_take_le ls l hi (by rw [← e]; exact h)
 unfold nxtL cntL; omega
theorem nxt_inj {ls:List Nat} {l i j:Nat} (hi:i<ls.length) (hj:j<ls.length) (h1:ls.getD i 0=l) (h2:ls.getD j 0=l) (h:nxtL ls l i=nxtL ls l j):i=j:=by
 have key:∀ i j:Nat,i<j→j<ls.length→ls.getD i 0=l→(ls.take i).count l<(ls.take j).count l:=fun i j hij hj hi=>by
  have h1:=take_count ls l (k:=i) (by omega)
  rw [if_pos hi] at h1
  have h2:(ls.take (i+1)).count l≤(ls.take j).count l:=by
   have:ls.take (i+1)=(ls.take j).take (i+1):=by rw [List.take_take,Nat.min_eq_left (by omega)]
   rw [this]
   exact (List.take_sublist _ _).count_le _
  omega
 unfold nxtL at h
 rcases Nat.lt_trichotomy i j with h3 | h3 | h3
 ·have:=key i j h3 hj h1; omega
 ·exact h3
 ·have:=key j i h3 hi h2; omega
theorem code_eq {ls:List Nat} (hr:roomL ls) {l n i:Nat} (hl:0<l) (hl2:l≤15) (hn:n<2 ^ l) (hi:i<ls.length):codeL ls i=bitsL l n↔ls.getD i 0=l∧nxtL ls l i=n:=by
 unfold codeL
 have e:ls.getD i 0=ls[i]:=by simp [List.getD_eq_getElem?_getD,List.getElem?_eq_getElem hi]
 constructor
 ·intro h
  split at h
  ·have:=congrArg List.length h
   rw [bitsL_length] at this; simp at this; omega
  ·have hle:=congrArg List.length h
   rw [bitsL_length,bitsL_length] at hle
   rw [hle] at h
   have:=nxt_lt hr hl hl2 hi (by rw [← e]; exact hle)
   exact ⟨hle,bitsL_inj l this hn h⟩
 ·rintro ⟨h1,h2⟩
  rw [if_neg (by omega),h1,h2]
def decS (ls:List Nat) (l n:Nat):Option Nat:=if fstL ls l≤n∧n<fstL ls l+cntL ls l then (idxs ls l)[n - fstL ls l]? else none
theorem dec_some {ls:List Nat} {l n i:Nat} (h:decS ls l n=some i):fstL ls l≤n∧n<fstL ls l+cntL ls l∧i<ls.length∧ls.getD i 0=l∧nxtL ls l i=n:=by
 unfold decS at h
 split at h
 ·rename_i hc
  obtain ⟨j,a,b,c,d⟩:=sign_at hc.1 hc.2
  rw [d] at h; injection h with h; subst h
  exact ⟨hc.1,hc.2,a,b,c⟩
 ·cases h
theorem find_code {ls:List Nat} (hr:roomL ls) {l n:Nat} (hl:0<l) (hl2:l≤15) (hn:n<2 ^ l):∀ i,i<ls.length→(codeL ls i=bitsL l n↔decS ls l n=some i):=by
 intro i hi
 rw [code_eq hr hl hl2 hn hi]
 constructor
 ·rintro ⟨h1,h2⟩
  have hb:=nxt_bound hi h1
  have hf:fstL ls l≤n:=by rw [← h2]; exact Nat.le_add_right _ _
  obtain ⟨j,a,b,c,d⟩:=sign_at hf (by omega)
  unfold decS
  rw [if_pos ⟨hf,by omega⟩,d,nxt_inj a hi b h1 (by omega)]
 ·intro h
  obtain ⟨-,-,-,a,b⟩:=dec_some h
  exact ⟨a,b⟩
theorem bits_take {l n:Nat}:(bitsL (l+1) (2 * n)).take l=bitsL l n:=by
 rw [bitsL,List.take_append_of_le_length (by rw [bitsL_length]; exact Nat.le_refl _),List.take_of_length_le (by rw [bitsL_length]; exact Nat.le_refl _),Nat.mul_div_cancel_left _ (by omega)]
theorem prefix_some {ls:List Nat} (hr:krL ls 15=32768):∀ d l n:Nat,l+d=15→0<l→n<2 ^ l→krL ls l≤n→∃ i,i<ls.length∧l<ls.getD i 0∧(codeL ls i).take l=bitsL l n
 | 0,l,n,hd,_,hn,hk=>by
  obtain rfl:l=15:=by omega
  rw [hr] at hk
  have:(2:Nat) ^ 15=32768:=by decide
  omega
 | d+1,l,n,hd,hl,hn,hk=>by
  have hroom:roomL ls:=by unfold roomL; omega
  have hf:=fstL_succ ls l
  have hn2:2 * n<2 ^ (l+1):=by rw [Nat.pow_succ]; omega
  by_cases h:2 * n<fstL ls (l+1)+cntL ls (l+1)
  ·obtain ⟨i,a,b,c,-⟩:=sign_at (by omega) h
   refine ⟨i,a,by omega,?_⟩
   rw [(code_eq hroom (by omega) (by omega) hn2 a).2 ⟨b,c⟩,bits_take]
  ·have hk2:krL ls (l+1)≤2 * n:=by unfold krL; rw [if_neg (by omega)]; omega
   obtain ⟨i,a,b,c⟩:=prefix_some hr d (l+1) (2 * n) (by omega) (by omega) hn2 hk2
   refine ⟨i,a,by omega,?_⟩
   have:=congrArg (List.take l) c
   rw [List.take_take,Nat.min_eq_left (by omega),bits_take] at this
   exact this
abbrev RdE (α:Type):=Except Nat (α × Nat)
def byteB (c:UInt8):List Bool:=(List.range 8).map fun i=>c.toNat.testBit i
def bitsOf (b:List UInt8):List Bool:=b.flatMap byteB
theorem byteB_length (c:UInt8):(byteB c).length=8:=by simp [byteB]
theorem bitsOf_length:∀ b:List UInt8,(bitsOf b).length=8 * b.length
 | []=>rfl
 | c :: b=>by
  have e:bitsOf (c :: b)=byteB c ++ bitsOf b:=rfl
  rw [e,List.length_append,byteB_length,bitsOf_length b,List.length_cons]; omega
theorem bitsOf_get:∀ (b:List UInt8) (at' : Nat) (h:at' < 8 * b.length),(bitsOf b)[at']?=some ((b.getD (at' / 8) 0).toNat.testBit (at' % 8))
 | [],at',h=>by simp at h
 | c :: b,at',h=>by
  have e:bitsOf (c :: b)=byteB c ++ bitsOf b:=rfl
  rw [e]
  by_cases h8:at' < 8
  ·rw [List.getElem?_append_left (by rw [byteB_length]; exact h8),Nat.div_eq_of_lt h8,Nat.mod_eq_of_lt h8]
   simp [byteB,h8]
  ·rw [List.getElem?_append_right (by rw [byteB_length]; omega),byteB_length,bitsOf_get b (at' - 8) (by rw [List.length_cons] at h; omega)]
   have h1:at' / 8=(at' - 8) / 8+1:=by omega
   have h2:at' % 8=(at' - 8) % 8:=by omega
   rw [h1,h2,List.getD_cons_succ]
def bitE (B:List Bool) (p:Nat):RdE Nat:=match B[p]? with
 | some b=>.ok (b.toNat,p+1)
 | none=>.error 3
def numB (B:List Bool) (p:Nat):Nat→Nat
 | 0=>0
 | n+1=>numB B p n+(B.getD (p+n) false).toNat * 2 ^ n
def numE (B:List Bool) (p n:Nat):RdE Nat:=if p+n≤B.length then .ok (numB B p n,p+n) else .error 3
theorem numB_lt (B:List Bool) (p:Nat):∀ n,numB B p n<2 ^ n
 | 0=>by simp [numB]
 | n+1=>by
  have:=numB_lt B p n
  rw [numB,Nat.pow_succ]
  cases B.getD (p+n) false <;> simp <;> omega
def totL (ls:List Nat):Nat→Nat
 | 0=>0
 | l+1=>totL ls l+cntL ls (l+1)
theorem tot_mono (ls:List Nat) (l k:Nat):totL ls l≤totL ls (l+k):=by
 induction k with
 | zero=>exact Nat.le_refl _
 | succ k ih=>exact Nat.le_trans ih (Nat.le_add_right _ _)
def signGo (ls:List Nat) (B:List Bool):Nat→Nat→Nat→Nat→RdE Nat
 | 0,_,_,_=>.error 4
 | k+1,l,n,p=>match bitE B p with
  | .error e=>.error e
  | .ok (b,p') =>
   if 2 * n+b<fstL ls (l+1)+cntL ls (l+1) then .ok ((idxs ls (l+1)).getD (2 * n+b - fstL ls (l+1)) 0,p')
   else if totL ls (l+1)=totL ls 15 then .error 4
   else signGo ls B k (l+1) (2 * n+b) p'
def signE (ls:List Nat) (B:List Bool) (p:Nat):RdE Nat:=signGo ls B 15 0 0 p
def bitsM (n v:Nat):List Bool:=(List.range n).map fun j=>(v / 2 ^ (n - 1 - j)).testBit 0
theorem bitsM_length (n v:Nat):(bitsM n v).length=n:=by simp [bitsM]
theorem bitsM_get {n v j:Nat} (h:j<n):(bitsM n v)[j]?=some ((v / 2 ^ (n - 1 - j)).testBit 0):=by
 simp [bitsM,h]
def standB (B:List Bool) (p:Nat) (x:List Bool):Prop:=∀ j,j<x.length→B[p+j]?=x[j]?
theorem standB_app {B:List Bool} {p:Nat} {x y:List Bool} (h:standB B p (x ++ y)):standB B p x∧standB B (p+x.length) y:=by
 constructor
 ·intro j hj
  rw [h j (by rw [List.length_append]; omega),List.getElem?_append_left hj]
 ·intro j hj
  have:=h (x.length+j) (by rw [List.length_append]; omega)
  rw [List.getElem?_append_right (by omega),Nat.add_sub_cancel_left,← Nat.add_assoc] at this
  exact this
theorem standB_self (a x y:List Bool):standB (a ++ x ++ y) a.length x:=fun j hj=>by
 rw [List.append_assoc,List.getElem?_append_right (by omega),Nat.add_sub_cancel_left,List.getElem?_append_left hj]
theorem toNat_testBit (v:Nat):(v.testBit 0).toNat=v % 2:=by
 rw [Nat.testBit_zero]
 rcases Nat.mod_two_eq_zero_or_one v with h | h <;> rw [h] <;> rfl
theorem signGo_code {ls:List Nat} (hr:krL ls 15=32768) {B:List Bool} {p i L:Nat} (hi:i<ls.length) (hL:ls.getD i 0=L) (h0:0<L) (h15:L≤15) (hs:standB B p (bitsM L (nxtL ls L i))) :
  ∀ d l,l+d=L→0<d→signGo ls B (15 - l) l (nxtL ls L i / 2 ^ d) (p+l)=.ok (i,p+L)
 | d+1,l,hd,_=>by
  have hlt:=nxt_bound hi hL
  have hf:fstL ls L≤nxtL ls L i:=Nat.le_add_right _ _
  generalize hv:nxtL ls L i=v at *
  have hb:bitE B (p+l)=.ok ((v / 2 ^ d) % 2,p+l+1):=by
   unfold bitE
   rw [hs l (by rw [bitsM_length]; omega),bitsM_get (by omega),show L - 1 - l=d by omega]
   simp only [toNat_testBit]
  have hn:2 * (v / 2 ^ (d+1))+(v / 2 ^ d) % 2=v / 2 ^ d:=by
   rw [Nat.pow_succ,← Nat.div_div_eq_div_mul]; omega
  rw [show 15 - l=(15 - (l+1))+1 by omega,signGo,hb]
  simp only
  rw [hn]
  cases d with
  | zero =>
   obtain rfl:l+1=L:=by omega
   rw [Nat.pow_zero,Nat.div_one,if_pos hlt]
   obtain ⟨j,a,b,c,e⟩:=sign_at hf hlt
   have:j=i:=nxt_inj a hi b hL (by rw [c,hv])
   rw [List.getD_eq_getElem?_getD,e,this]; rfl
  | succ d =>
   have hk:krL ls (l+1)≤v / 2 ^ (d+1):=by
    rw [Nat.le_div_iff_mul_le (Nat.pow_pos (by omega))]
    have h1:=kr_mono ls (l+1) d
    have h2:fstL ls L=2 * krL ls (l+1+d):=by
     rw [← fstL_succ]; congr 1; omega
    rw [Nat.pow_succ,← Nat.mul_assoc]
    omega
   have hk2:krL ls (l+1)=fstL ls (l+1)+cntL ls (l+1):=by unfold krL; rw [if_neg (by omega)]
   rw [if_neg (by omega)]
   have ht:totL ls (l+1)≠totL ls 15:=by
    have h1:=tot_mono ls (l+1) d
    have h2:=tot_mono ls L (15 - L)
    rw [show L+(15 - L)=15 by omega] at h2
    have h3:totL ls L=totL ls (l+1+d)+cntL ls L:=by
     rw [show L=l+1+d+1 by omega]; rfl
    omega
   rw [if_neg ht]
   have ih:=signGo_code hr hi hL h0 h15 (by rw [hv]; exact hs) (d+1) (l+1) (by omega) (by omega)
   rw [hv] at ih
   rw [show p+l+1=p+(l+1) by omega]
   exact ih
theorem sign_code {ls:List Nat} (hr:krL ls 15=32768) {B:List Bool} {p i L:Nat} (hi:i<ls.length) (hL:ls.getD i 0=L) (h0:0<L) (h15:L≤15) (hs:standB B p (bitsM L (nxtL ls L i))):signE ls B p=.ok (i,p+L):=by
 have h:=signGo_code hr hi hL h0 h15 hs L 0 (by omega) h0
 have hlt:nxtL ls L i<2 ^ L:=by
  have e:ls.getD i 0=ls[i]:=by simp [List.getD_eq_getElem?_getD,List.getElem?_eq_getElem hi]
  exact nxt_lt (by unfold roomL; omega) h0 h15 hi (by rw [← e]; exact hL)
 rw [Nat.div_eq_of_lt hlt] at h
 exact h
def bitsN (n v:Nat):List Bool:=(List.range n).map fun j=>v.testBit j
theorem bitsN_length (n v:Nat):(bitsN n v).length=n:=by simp [bitsN]
theorem bitsN_get {n v j:Nat} (h:j<n):(bitsN n v)[j]?=some (v.testBit j):=by simp [bitsN,h]
theorem standB_len {B:List Bool} {p:Nat} {x:List Bool} (h:standB B p x) (h0:0<x.length):p+x.length≤B.length:=by
 have h1:=h (x.length - 1) (by omega)
 rw [List.getElem?_eq_getElem (l:=x) (by omega)] at h1
 have:=(List.getElem?_eq_some_iff.1 h1).1
 omega
theorem numB_stand {B:List Bool} {p v:Nat}:∀ n,standB B p (bitsN n v)→numB B p n=v % 2 ^ n
 | 0,_=>by rw [Nat.pow_zero,Nat.mod_one]; rfl
 | n+1,h=>by
  have h1:standB B p (bitsN n v):=fun j hj=>by
   rw [bitsN_length] at hj
   rw [h j (by rw [bitsN_length]; omega),bitsN_get (by omega),bitsN_get hj]
  have h2:=h n (by rw [bitsN_length]; omega)
  rw [bitsN_get (by omega)] at h2
  have h3:B.getD (p+n) false=v.testBit n:=by rw [List.getD_eq_getElem?_getD,h2]; rfl
  have h4:(v.testBit n).toNat=v / 2 ^ n % 2:=by
   rw [Nat.testBit_eq_decide_div_mod_eq]
   rcases Nat.mod_two_eq_zero_or_one (v / 2 ^ n) with h | h <;> rw [h] <;> rfl
  rw [numB,numB_stand n h1,h3,h4,Nat.pow_succ,Nat.mod_mul]
  rw [Nat.mul_comm (2 ^ n)]
theorem num_read {B:List Bool} {p n v:Nat} (hp:p≤B.length) (hv:v<2 ^ n) (h:standB B p (bitsN n v)):numE B p n=.ok (v,p+n):=by
 unfold numE
 have hl:p+n≤B.length:=by
  cases n with
  | zero=>exact hp
  | succ n=>have:=standB_len h (by rw [bitsN_length]; omega); rwa [bitsN_length] at this
 rw [if_pos hl,numB_stand n h,Nat.mod_eq_of_lt hv]
def lenE (B:List Bool) (s p:Nat):RdE Nat :=
 if s - 257<8 then .ok (s - 257+3,p) else if s - 257=28 then .ok (258,p) else if 28<s - 257 then .error 4 else
 match numE B p ((s - 257) / 4 - 1) with
 | .error e=>.error e
 | .ok (x,p')=>.ok (3+(4+(s - 257) % 4) * 2 ^ ((s - 257) / 4 - 1)+x,p')
def distE (B:List Bool) (s p:Nat):RdE Nat :=
 if s<4 then .ok (s+1,p) else if 29<s then .error 4 else
 match numE B p (s / 2 - 1) with
 | .error e=>.error e
 | .ok (x,p')=>.ok (1+(2+s % 2) * 2 ^ (s / 2 - 1)+x,p')
def moreN (lim:Nat):Nat→Nat→Nat
 | 0,_=>0
 | f+1,k=>if k<lim then 0 else moreN lim f (k / 2)+1
theorem more_ok (lim:Nat) (hl:0<lim):∀ f k,k<lim * 2 ^ f→k / 2 ^ moreN lim f k<lim∧moreN lim f k≤f∧(lim≤k→lim≤2 * (k / 2 ^ moreN lim f k)+1)
 | 0,k,h=>by
  rw [Nat.pow_zero,Nat.mul_one] at h
  simp only [moreN,Nat.pow_zero,Nat.div_one]
  omega
 | f+1,k,h=>by
  unfold moreN
  by_cases hk:k<lim
  ·rw [if_pos hk,Nat.pow_zero,Nat.div_one]; omega
  ·rw [if_neg hk]
   have hk2:k / 2<lim * 2 ^ f:=by rw [Nat.pow_succ,← Nat.mul_assoc] at h; omega
   obtain ⟨a,b,c⟩:=more_ok lim hl f (k / 2) hk2
   have e:k / 2 ^ (moreN lim f (k / 2)+1)=k / 2 / 2 ^ moreN lim f (k / 2):=by rw [Nat.pow_succ,Nat.mul_comm,Nat.div_div_eq_div_mul]
   rw [e]
   refine ⟨a,by omega,fun _=>?_⟩
   by_cases h2:lim≤k / 2
   ·exact c h2
   ·have h0:moreN lim f (k / 2)=0:=by
     cases f with
     | zero=>rfl
     | succ f=>unfold moreN; rw [if_pos (by omega)]
    rw [h0,Nat.pow_zero,Nat.div_one]; omega
def lenS (n:Nat):Nat × Nat × Nat :=
 if n=258 then (285,0,0) else
 if n - 3<8 then (257+(n - 3),0,0) else
 (257+4 * (moreN 8 8 (n - 3)+1)+(n - 3) / 2 ^ moreN 8 8 (n - 3) % 4,moreN 8 8 (n - 3),(n - 3) % 2 ^ moreN 8 8 (n - 3))
def distS (n:Nat):Nat × Nat × Nat :=
 if n - 1<4 then (n - 1,0,0) else
 (2 * (moreN 4 15 (n - 1)+1)+(n - 1) / 2 ^ moreN 4 15 (n - 1) % 2,moreN 4 15 (n - 1),(n - 1) % 2 ^ moreN 4 15 (n - 1))
theorem len_read {B:List Bool} {p n:Nat} (hp:p≤B.length) (h3:3≤n) (h258:n≤258) (h:standB B p (bitsN (lenS n).2.1 (lenS n).2.2)):lenE B (lenS n).1 p=.ok (n,p+(lenS n).2.1)∧257≤(lenS n).1∧(lenS n).1≤285:=by
 unfold lenS at h ⊢
 by_cases h1:n=258
 ·rw [if_pos h1]
  refine ⟨?_,by show 257≤285; omega,by show 285≤285; omega⟩
  show lenE B 285 p=_
  unfold lenE
  rw [if_neg (by omega),if_pos (by omega),h1]; rfl
 ·rw [if_neg h1] at h ⊢
  by_cases h2:n - 3<8
  ·rw [if_pos h2]
   refine ⟨?_,by show 257≤257+(n - 3); omega,by show 257+(n - 3)≤285; omega⟩
   unfold lenE
   simp only
   rw [if_pos (by omega),show 257+(n - 3) - 257+3=n by omega,Nat.add_zero]
  ·rw [if_neg h2] at h ⊢
   obtain ⟨a,b,c⟩:=more_ok 8 (by omega) 8 (n - 3) (by omega)
   have hm:moreN 8 8 (n - 3)≤5:=by
    rcases Nat.lt_or_ge 5 (moreN 8 8 (n - 3)) with h6 | h6
    ·have h7:2 ^ 6≤2 ^ moreN 8 8 (n - 3):=Nat.pow_le_pow_right (by omega) h6
     have h8:=c (by omega)
     have h9:(n - 3) / 2 ^ moreN 8 8 (n - 3)≤(n - 3) / 2 ^ 6:=Nat.div_le_div_left h7 (by omega)
     omega
    ·exact h6
   have h0:1≤moreN 8 8 (n - 3):=by
    rcases Nat.eq_zero_or_pos (moreN 8 8 (n - 3)) with h6 | h6
    ·rw [h6,Nat.pow_zero,Nat.div_one] at a; omega
    ·exact h6
   have hd:=Nat.div_add_mod (n - 3) (2 ^ moreN 8 8 (n - 3))
   have hlt:=Nat.mod_lt (n - 3) (Nat.pow_pos (n:=moreN 8 8 (n - 3)) (by omega:0<2))
   have hc:=c (by omega)
   generalize hM:moreN 8 8 (n - 3)=M at *
   generalize hQ:(n - 3) / 2 ^ M=q at *
   generalize hR:(n - 3) % 2 ^ M=r at *
   simp only at h ⊢
   refine ⟨?_,by omega,by omega⟩
   have e1:257+4 * (M+1)+q % 4 - 257=4 * (M+1)+q % 4:=by omega
   have e2:(4 * (M+1)+q % 4) / 4 - 1=M:=by omega
   have e3:(4 * (M+1)+q % 4) % 4=q % 4:=by omega
   unfold lenE
   rw [e1,if_neg (by omega),if_neg (by omega),if_neg (by omega),e2,num_read hp hlt h,e3]
   simp only
   have e4:4+q % 4=q:=by omega
   have e5:3+q * 2 ^ M+r=n:=by rw [Nat.mul_comm q]; omega
   rw [e4,e5]
theorem dist_read {B:List Bool} {p n:Nat} (hp:p≤B.length) (h1:1≤n) (h2:n≤32768) (h:standB B p (bitsN (distS n).2.1 (distS n).2.2)):distE B (distS n).1 p=.ok (n,p+(distS n).2.1)∧(distS n).1≤29:=by
 unfold distS at h ⊢
 by_cases h4:n - 1<4
 ·rw [if_pos h4]
  refine ⟨?_,by show n - 1≤29; omega⟩
  unfold distE
  simp only
  rw [if_pos h4,show n - 1+1=n by omega,Nat.add_zero]
 ·rw [if_neg h4] at h ⊢
  obtain ⟨a,b,c⟩:=more_ok 4 (by omega) 15 (n - 1) (by omega)
  have hm:moreN 4 15 (n - 1)≤13:=by
   rcases Nat.lt_or_ge 13 (moreN 4 15 (n - 1)) with h6 | h6
   ·have h7:2 ^ 14≤2 ^ moreN 4 15 (n - 1):=Nat.pow_le_pow_right (by omega) h6
    have h8:=c (by omega)
    have h9:(n - 1) / 2 ^ moreN 4 15 (n - 1)≤(n - 1) / 2 ^ 14:=Nat.div_le_div_left h7 (by omega)
    omega
   ·exact h6
  have h0:1≤moreN 4 15 (n - 1):=by
   rcases Nat.eq_zero_or_pos (moreN 4 15 (n - 1)) with h6 | h6
   ·rw [h6,Nat.pow_zero,Nat.div_one] at a; omega
   ·exact h6
  have hp2:0<2 ^ moreN 4 15 (n - 1):=Nat.pow_pos (by omega)
  have hd:=Nat.div_add_mod (n - 1) (2 ^ moreN 4 15 (n - 1))
  have hlt:=Nat.mod_lt (n - 1) (Nat.pow_pos (n:=moreN 4 15 (n - 1)) (by omega:0<2))
  have hc:=c (by omega)
  generalize hM:moreN 4 15 (n - 1)=M at *
  generalize hQ:(n - 1) / 2 ^ M=q at *
  generalize hR:(n - 1) % 2 ^ M=r at *
  simp only at h ⊢
  refine ⟨?_,by omega⟩
  have e2:(2 * (M+1)+q % 2) / 2 - 1=M:=by omega
  have e3:(2 * (M+1)+q % 2) % 2=q % 2:=by omega
  unfold distE
  rw [if_neg (by omega),if_neg (by omega),e2,num_read hp hlt h,e3]
  simp only
  have e4:2+q % 2=q:=by omega
  have e5:1+q * 2 ^ M+r=n:=by rw [Nat.mul_comm q]; omega
  rw [e4,e5]
end Go.Proofs.YtakolikdebfkeaaGreatDoor
