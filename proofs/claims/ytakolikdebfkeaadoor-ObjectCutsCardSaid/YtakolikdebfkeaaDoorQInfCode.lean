import Derived.Test.YtakolikdebfkeaaDoorChecked
import Derived.Test.YtakolikdebfkeaaDoorQAM9
import Derived.Test.YtakolikdebfkeaaDoorQInfLaw7
import Derived.Test.YtakolikdebfkeaaDoorQZlCode
import Derived.Test.YtakolikdebfkeaaDoorQAMS
open Nat (reduceDiv reduceMod reduceSub reduceAdd reduceLeDiff reduceEqDiff)
set_option linter.all false
namespace Go.Proofs.YtakolikdebfkeaaDoor
open Go.RowKit
def c_ibit:ACode:=(.seq (.reg none [oS 2 (.mv (.c (.int .i64 0)))]) (.seq (.seq (.reg (some [(0,false),(1,false),(2,false),(3,false),(4,false),(5,false),(6,false),(7,false),(8,false),(9,false),(10,true)]) [oS 4 (.mv (.t 0)),oS 5 (.nck (.t 4)),oS 6 (.fa 1 (.t 5)),oS 7 (.ld (.one (.int .i64 0)) (.t 6)),oS 8 (.mv (.t 0)),oS 9 (.nck (.t 8)),oS 10 (.fa 0 (.t 9)),oS 11 (.ld (.one (.con (.slice none 0 0))) (.t 10)),oS 12 (.len none false (.t 11)),oS 13 (.bin .mul (.c (.int .i64 8)) (.t 12)),oS 14 (.bin .geq (.t 7) (.t 13))]) (.cond (.t 14) (.reg none [oS 15 (.call 75 [(.c (.int .i64 3))])]) .skip)) (.seq (.reg (some [(0,false),(1,false),(2,false),(3,false),(4,false),(5,false),(6,false),(7,false),(8,false),(9,false),(10,false),(11,false),(12,false),(13,false),(14,false),(15,false),(16,true),(17,true),(18,true),(19,true)]) [oS 16 (.mv (.t 0)),oS 17 (.nck (.t 16)),oS 18 (.fa 0 (.t 17)),oS 19 (.ld (.one (.con (.slice none 0 0))) (.t 18)),oS 20 (.mv (.t 0)),oS 21 (.nck (.t 20)),oS 22 (.fa 1 (.t 21)),oS 23 (.ld (.one (.int .i64 0)) (.t 22)),oS 24 (.bin .quo (.t 23) (.c (.int .i64 8))),oS 25 (.ia 1 (.int .u8 0) (.t 19) (.t 24)),oS 26 (.ld (.one (.int .u8 0)) (.t 25)),oS 27 (.mv (.t 0)),oS 28 (.nck (.t 27)),oS 29 (.fa 1 (.t 28)),oS 30 (.ld (.one (.int .i64 0)) (.t 29)),oS 31 (.bin .rem (.t 30) (.c (.int .i64 8))),oS 32 (.bin .shr (.t 26) (.t 31)),oS 33 (.toInt .i64 (.t 32)),oS 34 (.bin .and (.t 33) (.c (.int .i64 1))),oS 3 (.mv (.t 34))]) (.seq (.reg none [oS 35 (.mv (.t 0)),oS 36 (.nck (.t 35)),oS 37 (.fa 1 (.t 36)),oS 38 (.ld (.one (.int .i64 0)) (.t 37)),oS 39 (.bin .add (.t 38) (.c (.int .i64 1))),oS 40 (.nck (.t 35)),oS 41 (.fa 1 (.t 40)),oN (.st (.one (.int .i64 0)) (.t 41) (.t 39))]) (.seq (.reg none [oS 42 (.mv (.t 3)),oS 2 (.mv (.t 42))]) .ret)))))
def r_ibit:List ARes:=[(.t 2)]
theorem s_ibit:slimF Tryd.prog Tryd.f69=some (c_ibit,r_ibit):=by kernel_rfl
def b_inum_0:ACode:=(.seq (.reg none [oS 9 (.bin .lss (.t 8) (.t 7))]) (.seq (.cond (.t 9) .skip (.exit 0)) (.seq (.block 1 (.seq (.reg none [oS 10 (.mv (.t 8)),oS 6 (.mv (.t 10))]) (.reg none [oS 11 (.mv (.t 5)),oS 12 (.mv (.t 0)),oS 13 (.call 69 [(.t 12)]),oS 14 (.mv (.t 6)),oS 15 (.bin .shl (.t 13) (.t 14)),oS 16 (.bin .or (.t 11) (.t 15)),oS 5 (.mv (.t 16))]))) (.reg none [oS 17 (.bin .add (.t 8) (.c (.int .i64 1))),oS 8 (.mv (.t 17))]))))
def t_inum_0:ACode:=(.seq (.reg none [oS 18 (.mv (.t 5)),oS 4 (.mv (.t 18))]) .ret)
def c_inum:ACode:=(.seq (.reg none [oS 4 (.mv (.c (.int .i64 0)))]) (.seq (.reg none [oS 5 (.mv (.c (.int .i64 0)))]) (.seq (.seq (.reg none [oS 7 (.mv (.t 1)),oS 8 (.mv (.c (.int .i64 0)))]) (.block 0 (.loop b_inum_0))) t_inum_0)))
def r_inum:List ARes:=[(.t 4)]
theorem s_inum:slimF Tryd.prog Tryd.f70=some (c_inum,r_inum):=by kernel_rfl
def c_ifail:ACode:=(.reg none [oS 2 (.mv (.t 0)),oS 3 (.build [(1,(.int .i64 0))] [(0,(1,(.t 2)))]),oS 4 (.mkif 115 (.t 3)),oN (.pan (.t 4))])
def r_ifail:List ARes:=[]
theorem s_ifail:slimF Tryd.prog Tryd.f75=some (c_ifail,r_ifail):=by kernel_rfl
def b_imade_0:ACode:=(.seq (.reg none [oS 19 (.bin .lss (.t 18) (.t 17))]) (.seq (.cond (.t 19) .skip (.exit 2)) (.seq (.block 3 (.seq (.reg none [oS 20 (.mv (.t 18)),oS 21 (.ia 1 (.int .i64 0) (.t 16) (.t 18)),oS 22 (.ld (.one (.int .i64 0)) (.t 21)),oS 7 (.mv (.t 20)),oS 8 (.mv (.t 22))]) (.seq (.reg none [oS 23 (.mv (.t 8)),oS 24 (.mv (.t 6)),oS 25 (.bin .eql (.t 23) (.t 24))]) (.cond (.t 25) (.seq (.reg none [oS 26 (.mv (.t 6)),oS 27 (.fa 0 (.t 5)),oS 28 (.iaA 16 (.t 27) (.t 26)),oS 29 (.ld (.one (.int .i64 0)) (.t 28)),oS 30 (.bin .add (.t 29) (.c (.int .i64 1))),oS 31 (.fa 0 (.t 5)),oS 32 (.iaA 16 (.t 31) (.t 26)),oN (.st (.one (.int .i64 0)) (.t 32) (.t 30))]) (.reg none [oS 33 (.fa 16 (.t 5)),oS 34 (.ld (.one (.con (.slice none 0 0))) (.t 33)),oS 35 (.mv (.t 7)),oS 36 (.buildSl 3 1 [(.t 35)]),oS 37 (.app 3 1 8 (.t 34) (.t 36)),oS 38 (.fa 16 (.t 5)),oN (.st (.one (.con (.slice none 0 0))) (.t 38) (.t 37))])) .skip)))) (.reg none [oS 39 (.bin .add (.t 18) (.c (.int .i64 1))),oS 18 (.mv (.t 39))]))))
def t_imade_0:ACode:=(.reg none [oS 14 (.mv (.t 6)),oS 15 (.bin .add (.t 14) (.c (.int .i64 1))),oS 6 (.mv (.t 15))])
def b_imade_1:ACode:=(.seq (.seq (.reg none [oS 12 (.mv (.t 6)),oS 13 (.bin .lss (.t 12) (.c (.int .i64 16)))]) (.cond (.t 13) .skip (.exit 0))) (.seq (.block 1 (.seq (.reg none [oS 16 (.mv (.t 0)),oS 17 (.len none false (.t 16)),oS 18 (.mv (.c (.int .i64 0)))]) (.block 2 (.loop b_imade_0)))) t_imade_0))
def b_imade_2:ACode:=(.seq (.seq (.reg none [oS 40 (.mv (.t 10)),oS 41 (.bin .lss (.t 40) (.c (.int .i64 16)))]) (.cond (.t 41) .skip (.exit 4))) (.seq (.block 5 (.reg none [oS 44 (.mv (.t 9)),oS 45 (.mv (.t 10)),oS 46 (.fa 0 (.t 5)),oS 47 (.iaA 16 (.t 46) (.t 45)),oS 48 (.ld (.one (.int .i64 0)) (.t 47)),oS 49 (.mv (.t 10)),oS 50 (.bin .sub (.c (.int .i64 15)) (.t 49)),oS 51 (.bin .shl (.t 48) (.t 50)),oS 52 (.bin .add (.t 44) (.t 51)),oS 9 (.mv (.t 52))])) (.reg none [oS 42 (.mv (.t 10)),oS 43 (.bin .add (.t 42) (.c (.int .i64 1))),oS 10 (.mv (.t 43))])))
def t_imade_1:ACode:=(.seq (.reg none [oS 53 (.mv (.t 9)),oS 54 (.bin .eql (.t 53) (.c (.int .i64 32768))),oS 55 (.mv (.t 54)),oH 56 (.fa 16 (.t 5)) 55,oH 57 (.ld (.one (.con (.slice none 0 0))) (.t 56)) 55,oH 58 (.len none false (.t 57)) 55,oH 59 (.bin .eql (.t 58) (.c (.int .i64 1))) 55,oH 60 (.mv (.t 59)) 55,oG 61 (.fa 0 (.t 5)) 60,oG 62 (.iaA 16 (.t 61) (.c (.int .i64 1))) 60,oG 63 (.ld (.one (.int .i64 0)) (.t 62)) 60,oG 64 (.bin .eql (.t 63) (.c (.int .i64 1))) 60,oH 65 (.pick (.t 60) (.t 64) (.c (.bool false))) 55,oS 66 (.pick (.t 55) (.c (.bool true)) (.t 65)),oS 67 (.mv (.t 66)),oH 68 (.mv (.t 1)) 67,oH 69 (.mv (.t 68)) 67,oG 70 (.fa 16 (.t 5)) 69,oG 71 (.ld (.one (.con (.slice none 0 0))) (.t 70)) 69,oG 72 (.len none false (.t 71)) 69,oG 73 (.bin .eql (.t 72) (.c (.int .i64 0))) 69,oH 74 (.pick (.t 69) (.t 73) (.c (.bool false))) 67,oS 75 (.pick (.t 67) (.c (.bool true)) (.t 74)),oS 11 (.mv (.t 75))]) (.seq (.seq (.reg none [oS 76 (.mv (.t 11)),oS 77 (.un .not (.t 76))]) (.cond (.t 77) (.reg none [oS 78 (.call 75 [(.c (.int .i64 4))])]) .skip)) (.seq (.reg none [oS 79 (.ld (.st 17) (.t 5)),oN (.st (.st 17) (.t 4) (.t 79))]) .ret)))
def t_imade_2:ACode:=(.seq (.reg none [oS 9 (.mv (.c (.int .i64 0)))]) (.seq (.seq (.reg none [oS 10 (.mv (.c (.int .i64 1)))]) (.block 4 (.loop b_imade_2))) t_imade_1))
def c_imade:ACode:=(.seq (.reg none [oS 4 (.new 128 [(16,(.blob (List.replicate 16 (.int .i64 0)))),(1,(.con (.slice none 0 0)))])]) (.seq (.reg none [oS 5 (.new 128 [(16,(.blob (List.replicate 16 (.int .i64 0)))),(1,(.con (.slice none 0 0)))])]) (.seq (.seq (.reg none [oS 6 (.mv (.c (.int .i64 1)))]) (.block 0 (.loop b_imade_1))) t_imade_2)))
def r_imade:List ARes:=[(.c 4 (.st 17))]
theorem s_imade:slimF Tryd.prog Tryd.f100=some (c_imade,r_imade):=by kernel_rfl
def b_isign_0:ACode:=(.seq (.seq (.reg none [oS 9 (.mv (.t 8)),oS 10 (.bin .lss (.t 9) (.c (.int .i64 16)))]) (.cond (.t 10) .skip (.exit 0))) (.seq (.block 1 (.seq (.reg none [oS 13 (.mv (.t 5)),oS 14 (.bin .shl (.t 13) (.c (.int .u64 1))),oS 15 (.mv (.t 0)),oS 16 (.call 69 [(.t 15)]),oS 17 (.bin .or (.t 14) (.t 16)),oS 5 (.mv (.t 17))]) (.seq (.reg none [oS 18 (.mv (.t 6)),oS 19 (.bin .shl (.t 18) (.c (.int .u64 1))),oS 6 (.mv (.t 19))]) (.seq (.seq (.reg none [oS 20 (.mv (.t 5)),oS 21 (.mv (.t 6)),oS 22 (.bin .sub (.t 20) (.t 21)),oS 23 (.mv (.t 8)),oS 24 (.fa 0 (.t 3)),oS 25 (.iaA 16 (.t 24) (.t 23)),oS 26 (.ld (.one (.int .i64 0)) (.t 25)),oS 27 (.bin .lss (.t 22) (.t 26))]) (.cond (.t 27) (.seq (.reg none [oS 28 (.fa 16 (.t 3)),oS 29 (.ld (.one (.con (.slice none 0 0))) (.t 28)),oS 30 (.mv (.t 7)),oS 31 (.mv (.t 5)),oS 32 (.bin .add (.t 30) (.t 31)),oS 33 (.mv (.t 6)),oS 34 (.bin .sub (.t 32) (.t 33)),oS 35 (.ia 1 (.int .i64 0) (.t 29) (.t 34)),oS 36 (.ld (.one (.int .i64 0)) (.t 35)),oS 4 (.mv (.t 36))]) .ret) .skip)) (.seq (.reg none [oS 37 (.mv (.t 7)),oS 38 (.mv (.t 8)),oS 39 (.fa 0 (.t 3)),oS 40 (.iaA 16 (.t 39) (.t 38)),oS 41 (.ld (.one (.int .i64 0)) (.t 40)),oS 42 (.bin .add (.t 37) (.t 41)),oS 7 (.mv (.t 42))]) (.seq (.reg none [oS 43 (.mv (.t 6)),oS 44 (.mv (.t 8)),oS 45 (.fa 0 (.t 3)),oS 46 (.iaA 16 (.t 45) (.t 44)),oS 47 (.ld (.one (.int .i64 0)) (.t 46)),oS 48 (.bin .add (.t 43) (.t 47)),oS 6 (.mv (.t 48))]) (.seq (.reg none [oS 49 (.mv (.t 7)),oS 50 (.fa 16 (.t 3)),oS 51 (.ld (.one (.con (.slice none 0 0))) (.t 50)),oS 52 (.len none false (.t 51)),oS 53 (.bin .eql (.t 49) (.t 52))]) (.cond (.t 53) (.exit 0) .skip)))))))) (.reg none [oS 11 (.mv (.t 8)),oS 12 (.bin .add (.t 11) (.c (.int .i64 1))),oS 8 (.mv (.t 12))])))
def t_isign_0:ACode:=(.seq (.reg none [oS 54 (.call 75 [(.c (.int .i64 4))])]) (.seq (.reg none [oS 4 (.mv (.c (.int .i64 0)))]) .ret))
def c_isign:ACode:=(.seq (.reg none [oS 3 (.box 128 17 (.t 1)),oS 4 (.mv (.c (.int .i64 0)))]) (.seq (.reg none [oS 5 (.mv (.c (.int .i64 0))),oS 6 (.mv (.c (.int .i64 0))),oS 7 (.mv (.c (.int .i64 0)))]) (.seq (.seq (.reg none [oS 8 (.mv (.c (.int .i64 1)))]) (.block 0 (.loop b_isign_0))) t_isign_0)))
def r_isign:List ARes:=[(.t 4)]
theorem s_isign:slimF Tryd.prog Tryd.f97=some (c_isign,r_isign):=by kernel_rfl
def c_iput:ACode:=(.seq (.seq (.reg (some [(0,false),(1,false),(2,false),(3,false),(4,false),(5,false),(6,false),(7,false),(8,false),(9,true)]) [oS 4 (.mv (.t 0)),oS 5 (.nck (.t 4)),oS 6 (.fa 2 (.t 5)),oS 7 (.ld (.one (.con (.slice none 0 0))) (.t 6)),oS 8 (.len none false (.t 7)),oS 9 (.mv (.t 0)),oS 10 (.nck (.t 9)),oS 11 (.fa 3 (.t 10)),oS 12 (.ld (.one (.int .i64 0)) (.t 11)),oS 13 (.bin .geq (.t 8) (.t 12))]) (.cond (.t 13) (.reg none [oS 14 (.call 75 [(.c (.int .i64 2))])]) .skip)) (.reg none [oS 15 (.mv (.t 0)),oS 16 (.mv (.t 0)),oS 17 (.nck (.t 16)),oS 18 (.fa 2 (.t 17)),oS 19 (.ld (.one (.con (.slice none 0 0))) (.t 18)),oS 20 (.mv (.t 1)),oS 21 (.buildSl 5 1 [(.t 20)]),oS 22 (.app 5 1 1 (.t 19) (.t 21)),oS 23 (.nck (.t 15)),oS 24 (.fa 2 (.t 23)),oN (.st (.one (.con (.slice none 0 0))) (.t 24) (.t 22))]))
def r_iput:List ARes:=[]
theorem s_iput:slimF Tryd.prog Tryd.f96=some (c_iput,r_iput):=by kernel_rfl
def b_istor_0:ACode:=(.seq (.reg none [oS 29 (.bin .lss (.t 28) (.t 27))]) (.seq (.cond (.t 29) .skip (.exit 0)) (.seq (.block 1 (.reg none [oS 30 (.mv (.t 0)),oS 31 (.mv (.t 0)),oS 32 (.nck (.t 31)),oS 33 (.fa 0 (.t 32)),oS 34 (.call 70 [(.t 33),(.c (.int .i64 8))]),oS 35 (.toInt .u8 (.t 34)),oS 36 (.call 96 [(.t 30),(.t 35)])])) (.reg none [oS 37 (.bin .add (.t 28) (.c (.int .i64 1))),oS 28 (.mv (.t 37))]))))
def c_istor:ACode:=(.seq (.reg none [oS 3 (.mv (.t 0)),oS 4 (.mv (.t 0)),oS 5 (.nck (.t 4)),oS 6 (.fa 0 (.t 5)),oS 7 (.fa 1 (.t 6)),oS 8 (.ld (.one (.int .i64 0)) (.t 7)),oS 9 (.bin .add (.t 8) (.c (.int .i64 7))),oS 10 (.bin .quo (.t 9) (.c (.int .i64 8))),oS 11 (.bin .mul (.t 10) (.c (.int .i64 8))),oS 12 (.nck (.t 3)),oS 13 (.fa 0 (.t 12)),oS 14 (.fa 1 (.t 13)),oN (.st (.one (.int .i64 0)) (.t 14) (.t 11))]) (.seq (.reg none [oS 15 (.mv (.t 0)),oS 16 (.nck (.t 15)),oS 17 (.fa 0 (.t 16)),oS 18 (.call 70 [(.t 17),(.c (.int .i64 16))]),oS 2 (.mv (.t 18))]) (.seq (.seq (.reg none [oS 19 (.mv (.t 0)),oS 20 (.nck (.t 19)),oS 21 (.fa 0 (.t 20)),oS 22 (.call 70 [(.t 21),(.c (.int .i64 16))]),oS 23 (.mv (.t 2)),oS 24 (.bin .sub (.c (.int .i64 65535)) (.t 23)),oS 25 (.bin .neq (.t 22) (.t 24))]) (.cond (.t 25) (.reg none [oS 26 (.call 75 [(.c (.int .i64 4))])]) .skip)) (.seq (.reg none [oS 27 (.mv (.t 2)),oS 28 (.mv (.c (.int .i64 0)))]) (.block 0 (.loop b_istor_0))))))
def r_istor:List ARes:=[]
theorem s_istor:slimF Tryd.prog Tryd.f71=some (c_istor,r_istor):=by kernel_rfl
def c_ilen:ACode:=(.seq (.reg none [oS 4 (.mv (.c (.int .i64 0)))]) (.seq (.reg none [oS 7 (.mv (.t 1)),oS 8 (.bin .sub (.t 7) (.c (.int .i64 257))),oS 5 (.mv (.t 8))]) (.seq (.block 0 (.seq (.reg none [oS 10 (.mv (.t 5)),oS 11 (.bin .lss (.t 10) (.c (.int .i64 8))),oS 9 (.mv (.t 11))]) (.cond (.t 9) (.seq (.reg none [oS 12 (.mv (.t 5)),oS 13 (.bin .add (.t 12) (.c (.int .i64 3))),oS 4 (.mv (.t 13))]) .ret) (.seq (.reg none [oS 15 (.mv (.t 5)),oS 16 (.bin .eql (.t 15) (.c (.int .i64 28))),oS 14 (.mv (.t 16))]) (.cond (.t 14) (.seq (.reg none [oS 4 (.mv (.c (.int .i64 258)))]) .ret) (.seq (.reg none [oS 18 (.mv (.t 5)),oS 19 (.bin .gtr (.t 18) (.c (.int .i64 28))),oS 17 (.mv (.t 19))]) (.cond (.t 17) (.reg none [oS 20 (.call 75 [(.c (.int .i64 4))])]) .skip))))))) (.seq (.reg none [oS 21 (.mv (.t 5)),oS 22 (.bin .quo (.t 21) (.c (.int .i64 4))),oS 23 (.bin .sub (.t 22) (.c (.int .i64 1))),oS 6 (.mv (.t 23))]) (.seq (.reg (some [(0,false),(1,false),(2,false),(3,false),(4,false),(5,false),(6,true),(7,true),(8,true),(9,false),(10,true),(11,true),(12,true)]) [oS 24 (.mv (.t 5)),oS 25 (.bin .rem (.t 24) (.c (.int .i64 4))),oS 26 (.bin .add (.c (.int .i64 4)) (.t 25)),oS 27 (.mv (.t 6)),oS 28 (.bin .shl (.t 26) (.t 27)),oS 29 (.bin .add (.c (.int .i64 3)) (.t 28)),oS 30 (.mv (.t 0)),oS 31 (.nck (.t 30)),oS 32 (.fa 0 (.t 31)),oS 33 (.mv (.t 6)),oS 34 (.call 70 [(.t 32),(.t 33)]),oS 35 (.bin .add (.t 29) (.t 34)),oS 4 (.mv (.t 35))]) .ret)))))
def r_ilen:List ARes:=[(.t 4)]
theorem s_ilen:slimFA Tryd.prog Tryd.f98=some (c_ilen,r_ilen):=by kernel_rfl
def c_idist:ACode:=(.seq (.reg none [oS 4 (.mv (.c (.int .i64 0)))]) (.seq (.block 0 (.seq (.reg none [oS 7 (.mv (.t 1)),oS 8 (.bin .lss (.t 7) (.c (.int .i64 4))),oS 6 (.mv (.t 8))]) (.cond (.t 6) (.seq (.reg none [oS 9 (.mv (.t 1)),oS 10 (.bin .add (.t 9) (.c (.int .i64 1))),oS 4 (.mv (.t 10))]) .ret) (.seq (.reg none [oS 12 (.mv (.t 1)),oS 13 (.bin .gtr (.t 12) (.c (.int .i64 29))),oS 11 (.mv (.t 13))]) (.cond (.t 11) (.reg none [oS 14 (.call 75 [(.c (.int .i64 4))])]) .skip))))) (.seq (.reg none [oS 15 (.mv (.t 1)),oS 16 (.bin .quo (.t 15) (.c (.int .i64 2))),oS 17 (.bin .sub (.t 16) (.c (.int .i64 1))),oS 5 (.mv (.t 17))]) (.seq (.reg (some [(0,false),(1,false),(2,false),(3,false),(4,false),(5,false),(6,true),(7,true),(8,true),(9,false),(10,true),(11,true),(12,true)]) [oS 18 (.mv (.t 1)),oS 19 (.bin .rem (.t 18) (.c (.int .i64 2))),oS 20 (.bin .add (.c (.int .i64 2)) (.t 19)),oS 21 (.mv (.t 5)),oS 22 (.bin .shl (.t 20) (.t 21)),oS 23 (.bin .add (.c (.int .i64 1)) (.t 22)),oS 24 (.mv (.t 0)),oS 25 (.nck (.t 24)),oS 26 (.fa 0 (.t 25)),oS 27 (.mv (.t 5)),oS 28 (.call 70 [(.t 26),(.t 27)]),oS 29 (.bin .add (.t 23) (.t 28)),oS 4 (.mv (.t 29))]) .ret))))
def r_idist:List ARes:=[(.t 4)]
theorem s_idist:slimFA Tryd.prog Tryd.f99=some (c_idist,r_idist):=by kernel_rfl
def b_isigns_0:ACode:=(.seq (.reg none [oS 39 (.bin .lss (.t 38) (.t 37))]) (.seq (.cond (.t 39) .skip (.exit 3)) (.seq (.block 4 (.reg (some [(0,false),(1,false),(2,false),(3,false),(4,false),(5,false),(6,false),(7,false),(8,false),(9,false),(10,false),(11,false),(12,false),(13,false),(14,true)]) [oS 40 (.mv (.t 0)),oS 41 (.mv (.t 0)),oS 42 (.nck (.t 41)),oS 43 (.fa 2 (.t 42)),oS 44 (.ld (.one (.con (.slice none 0 0))) (.t 43)),oS 45 (.mv (.t 0)),oS 46 (.nck (.t 45)),oS 47 (.fa 2 (.t 46)),oS 48 (.ld (.one (.con (.slice none 0 0))) (.t 47)),oS 49 (.len none false (.t 48)),oS 50 (.mv (.t 8)),oS 51 (.bin .sub (.t 49) (.t 50)),oS 52 (.ia 1 (.int .u8 0) (.t 44) (.t 51)),oS 53 (.ld (.one (.int .u8 0)) (.t 52)),oS 54 (.call 96 [(.t 40),(.t 53)])])) (.reg none [oS 55 (.bin .add (.t 38) (.c (.int .i64 1))),oS 38 (.mv (.t 55))]))))
def b_isigns_1:ACode:=(.block 1 (.seq (.reg (some [(0,false),(1,false),(2,false),(3,false),(4,true),(5,true)]) [oS 9 (.mv (.t 0)),oS 10 (.nck (.t 9)),oS 11 (.fa 0 (.t 10)),oS 12 (.ld (.st 17) (.t 4)),oS 13 (.call 97 [(.t 11),(.t 12)]),oS 6 (.mv (.t 13))]) (.block 2 (.seq (.reg none [oS 57 (.mv (.t 6)),oS 58 (.bin .lss (.t 57) (.c (.int .i64 256))),oS 56 (.mv (.t 58))]) (.cond (.t 56) (.reg none [oS 59 (.mv (.t 0)),oS 60 (.mv (.t 6)),oS 61 (.toInt .u8 (.t 60)),oS 62 (.call 96 [(.t 59),(.t 61)])]) (.seq (.reg none [oS 64 (.mv (.t 6)),oS 65 (.bin .eql (.t 64) (.c (.int .i64 256))),oS 63 (.mv (.t 65))]) (.cond (.t 63) .ret (.seq (.reg none [oS 14 (.mv (.t 0)),oS 15 (.mv (.t 6)),oS 16 (.call 98 [(.t 14),(.t 15)]),oS 7 (.mv (.t 16))]) (.seq (.seq (.reg none [oS 17 (.fa 16 (.t 5)),oS 18 (.ld (.one (.con (.slice none 0 0))) (.t 17)),oS 19 (.len none false (.t 18)),oS 20 (.bin .eql (.t 19) (.c (.int .i64 0)))]) (.cond (.t 20) (.reg none [oS 21 (.call 75 [(.c (.int .i64 4))])]) .skip)) (.seq (.reg (some [(0,false),(1,false),(2,false),(3,false),(4,false),(5,true),(6,true),(7,true)]) [oS 22 (.mv (.t 0)),oS 23 (.mv (.t 0)),oS 24 (.nck (.t 23)),oS 25 (.fa 0 (.t 24)),oS 26 (.ld (.st 17) (.t 5)),oS 27 (.call 97 [(.t 25),(.t 26)]),oS 28 (.call 99 [(.t 22),(.t 27)]),oS 8 (.mv (.t 28))]) (.seq (.seq (.reg none [oS 29 (.mv (.t 8)),oS 30 (.mv (.t 0)),oS 31 (.nck (.t 30)),oS 32 (.fa 2 (.t 31)),oS 33 (.ld (.one (.con (.slice none 0 0))) (.t 32)),oS 34 (.len none false (.t 33)),oS 35 (.bin .gtr (.t 29) (.t 34))]) (.cond (.t 35) (.reg none [oS 36 (.call 75 [(.c (.int .i64 4))])]) .skip)) (.seq (.reg none [oS 37 (.mv (.t 7)),oS 38 (.mv (.c (.int .i64 0)))]) (.block 3 (.loop b_isigns_0))))))))))))))
def c_isigns:ACode:=(.seq (.reg none [oS 4 (.box 128 17 (.t 1)),oS 5 (.box 128 17 (.t 2))]) (.block 0 (.loop b_isigns_1)))
def r_isigns:List ARes:=[]
theorem s_isigns:slimFA Tryd.prog Tryd.f72=some (c_isigns,r_isigns):=by kernel_rfl
def b_ifix_0:ACode:=(.seq (.reg none [oS 6 (.bin .lss (.t 5) (.c (.int .i64 288)))]) (.seq (.cond (.t 6) .skip (.exit 0)) (.seq (.block 1 (.seq (.reg none [oS 7 (.mv (.t 5)),oS 4 (.mv (.t 7))]) (.block 2 (.seq (.seq (.reg none [oS 12 (.mv (.t 4)),oS 13 (.bin .lss (.t 12) (.c (.int .i64 144))),oS 11 (.mv (.t 13))]) (.cond (.t 11) .skip (.reg none [oS 14 (.mv (.t 4)),oS 15 (.bin .gtr (.t 14) (.c (.int .i64 279))),oS 11 (.mv (.t 15))]))) (.cond (.t 11) (.reg none [oS 16 (.mv (.t 2)),oS 17 (.buildSl 3 1 [(.c (.int .i64 8))]),oS 18 (.app 3 1 8 (.t 16) (.t 17)),oS 2 (.mv (.t 18))]) (.seq (.reg none [oS 20 (.mv (.t 4)),oS 21 (.bin .lss (.t 20) (.c (.int .i64 256))),oS 19 (.mv (.t 21))]) (.cond (.t 19) (.reg none [oS 22 (.mv (.t 2)),oS 23 (.buildSl 3 1 [(.c (.int .i64 9))]),oS 24 (.app 3 1 8 (.t 22) (.t 23)),oS 2 (.mv (.t 24))]) (.reg none [oS 8 (.mv (.t 2)),oS 9 (.buildSl 3 1 [(.c (.int .i64 7))]),oS 10 (.app 3 1 8 (.t 8) (.t 9)),oS 2 (.mv (.t 10))])))))))) (.reg none [oS 25 (.bin .add (.t 5) (.c (.int .i64 1))),oS 5 (.mv (.t 25))]))))
def b_ifix_1:ACode:=(.seq (.reg none [oS 27 (.bin .lss (.t 26) (.c (.int .i64 32)))]) (.seq (.cond (.t 27) .skip (.exit 3)) (.seq (.block 4 (.reg none [oS 28 (.mv (.t 3)),oS 29 (.buildSl 3 1 [(.c (.int .i64 5))]),oS 30 (.app 3 1 8 (.t 28) (.t 29)),oS 3 (.mv (.t 30))])) (.reg none [oS 31 (.bin .add (.t 26) (.c (.int .i64 1))),oS 26 (.mv (.t 31))]))))
def t_ifix_0:ACode:=(.seq (.reg none [oS 32 (.mv (.t 2)),oS 33 (.call 100 [(.t 32),(.c (.bool false))]),oS 34 (.mv (.t 3)),oS 35 (.call 100 [(.t 34),(.c (.bool false))]),oN (.st (.st 17) (.t 0) (.t 33)),oN (.st (.st 17) (.t 1) (.t 35))]) .ret)
def t_ifix_1:ACode:=(.seq (.seq (.reg none [oS 26 (.mv (.c (.int .i64 0)))]) (.block 3 (.loop b_ifix_1))) t_ifix_0)
def c_ifix:ACode:=(.seq (.reg none [oS 0 (.new 128 [(16,(.blob (List.replicate 16 (.int .i64 0)))),(1,(.con (.slice none 0 0)))]),oS 1 (.new 128 [(16,(.blob (List.replicate 16 (.int .i64 0)))),(1,(.con (.slice none 0 0)))])]) (.seq (.reg none [oS 2 (.mv (.c (.con (.slice none 0 0)))),oS 3 (.mv (.c (.con (.slice none 0 0))))]) (.seq (.seq (.reg none [oS 5 (.mv (.c (.int .i64 0)))]) (.block 0 (.loop b_ifix_0))) t_ifix_1)))
def r_ifix:List ARes:=[(.c 0 (.st 17)),(.c 1 (.st 17))]
theorem s_ifix:slimF Tryd.prog Tryd.f73=some (c_ifix,r_ifix):=by kernel_rfl
theorem bitE_lt {b:List UInt8} {p:Nat} (h:p<8 * b.length):bitE (bitsOf b) p=.ok ((b.getD (p / 8) 0).toNat / 2 ^ (p % 8) % 2,p+1):=by
 unfold bitE
 rw [bitsOf_get b p h]
 simp only [Nat.toNat_testBit]
theorem bitE_ge {b:List UInt8} {p:Nat} (h:8 * b.length≤p):bitE (bitsOf b) p=.error 3:=by
 unfold bitE
 rw [List.getElem?_eq_none (by rw [bitsOf_length]; exact h)]
theorem and1:∀ k:Nat,k<256→bits BinOp.and IntKind.i64 (k:Int) 1=((k % 2:Nat):Int):=by decide +kernel
def wrongV (e:Nat):AV:=.iface 115 (.agg [(1,.int .i64 (e:Int))])
def ifailX:XSpec:=fun xs hp=>match xs,hp with
 | [.int .i64 e],[]=>some (wrongV e.toNat,0≤e)
 | _,_=>none
theorem ifail_ok:FnPX Tryd.prog 75 ifailX:=by
 refine fn_slimX (ΦX:=phXL []) Tryd.func75 s_ifail (Φ:=phiL []) phi_nil phXL_nil ?_
 intro xs hp x p hs hp'
 unfold ifailX at hs
 split at hs
 ·injection hs with hs; injection hs with e1 e2; subst e1 e2
  rename_i e
  obtain ⟨k,rfl⟩:∃ k:Nat,e=k:=⟨e.toNat,by omega⟩
  refine ⟨len_le (by kernel_rfl),?_⟩
  simp only [c_ifail,wrongV,Int.toNat_natCast,go_sem,reduceDiv,reduceMod,↓reduceIte,reduceEqDiff,Nat.reduceBEq,reduceSub,Nat.reduceLT,reduceAdd,reduceLeDiff,reduceCtorEq,Int.reduceEq,Int.reduceNe,Int.reduceLT,Int.reduceLE,Int.reduceToNat]
 ·cases hs
def inpOk (k:Nat) (ps:List AV):Prop:=ps=Bs (unB ps)∧(unB ps).length≤1000000000∧(k=1∨ps=[])
theorem inp_k {k:Nat} {b:List UInt8} (h:inpOk k (Bs b)) (h0:0<b.length):k=1:=by
 rcases h.2.2 with h | h
 ·exact h
 ·have:=congrArg List.length h; rw [Bs_length] at this; simp at this; rw [this] at h0; simp at h0
theorem inp_len {k:Nat} {b:List UInt8} (h:inpOk k (Bs b)):b.length≤1000000000:=by have:=h.2.1; rw [unB_Bs] at this; exact this
def ibitS:Spec:=fun xs hp=>match xs,hp with
 | [.ref 0 0 0],[.cells t [(1,.sl k ps),(1,.int .i64 a),(1,.own 1 v),(1,.int .i64 m)],.row et es rv ys]=>match bitE (bitsOf (unB ps)) a.toNat with
  | .ok (x,q)=>some ⟨.int .i64 (x:Int),[.cells t [(1,.sl k ps),(1,.int .i64 (q:Int)),(1,.own 1 v),(1,.int .i64 m)],.row et es rv ys],inpOk k ps∧0≤a⟩
  | .error _=>none
 | _,_=>none
def ibitX:XSpec:=fun xs hp=>match xs,hp with
 | [.ref 0 0 0],[.cells t [(1,.sl k ps),(1,.int .i64 a),(1,.own 1 v),(1,.int .i64 m)],.row et es rv ys]=>match bitE (bitsOf (unB ps)) a.toNat with
  | .ok _=>none
  | .error e=>some (wrongV e,inpOk k ps∧0≤a∧a≤8000000008)
 | _,_=>none
theorem ibit_ok:FnOk Tryd.prog 69 ibitS:=by
 refine fn_slim2 Tryd.func69 s_ibit (Φ:=phiL []) phi_nil ?_
 intro xs hp r hs hp'
 unfold ibitS at hs
 split at hs
 ·rename_i t k ps a v m et es rv ys
  split at hs
  ·rename_i x q hb
   injection hs with hs; subst hs
   obtain ⟨h1,h2⟩:=hp'
   obtain ⟨p,rfl⟩:∃ p:Nat,a=p:=⟨a.toNat,by omega⟩
   have hps:=h1.1
   generalize unB ps=b at *
   subst hps
   have hl:=inp_len h1
   rw [Int.toNat_natCast] at hb
   have hlt:p<8 * b.length:=by
    rcases Nat.lt_or_ge p (8 * b.length) with h | h
    ·exact h
    ·rw [bitE_ge h] at hb; cases hb
   rw [bitE_lt hlt] at hb
   injection hb with hb; injection hb with e1 e2; subst e1 e2
   obtain rfl:=inp_k h1 (by omega)
   refine ⟨len_le (by kernel_rfl),?_⟩
   have c1:decide ((8:Int) * (b.length:Int)≤(p:Int))=false:=decide_eq_false (by omega)
   have e1:(p:Int).tdiv 8=((p / 8:Nat):Int):=by rw [Int.tdiv_eq_ediv_of_nonneg (by omega)]; omega
   have e2:(p:Int).tmod 8=((p % 8:Nat):Int):=by rw [Int.tmod_eq_emod_of_nonneg (by omega)]; omega
   have hu:=(b.getD (p / 8) 0).toNat_lt
   have e3:((b.getD (p / 8) 0).toNat:Int) / 2 ^ (p % 8)=(((b.getD (p / 8) 0).toNat / 2 ^ (p % 8):Nat):Int):=by norm_cast
   have hv:(b.getD (p / 8) 0).toNat / 2 ^ (p % 8)<256:=Nat.lt_of_le_of_lt (Nat.div_le_self _ _) (by omega)
   have e4:=and1 _ hv
   simp only [c_ibit,r_ibit,c1,e1,e2,e3,e4,Int.toNat_natCast,Bs_len,go_sem,reduceDiv,reduceMod,↓reduceIte,reduceEqDiff,Nat.reduceBEq,reduceSub,Nat.reduceLT,reduceAdd,reduceLeDiff,reduceCtorEq,Int.reduceEq,Int.reduceNe,Int.reduceLT,Int.reduceLE,Int.reduceToNat]
   clear e3 e4
   generalize (b.getD (p / 8) 0).toNat / 2 ^ (p % 8)=z at *
   (repeat' apply And.intro)
   all_goals first | omega | (first | omega | (simp only [lenOk,bytesOk,inI,IntKind.bits,List.length_append,Bs_len,List.length_cons,List.length_nil,List.length_map,List.length_take,List.length_drop,List.length_replicate]; omega)) | rfl | trivial
  ·cases hs
 ·cases hs
theorem ibit_px:FnPX Tryd.prog 69 ibitX:=by
 refine fn_slimX (ΦX:=phXL [(75,[],ifailX)]) Tryd.func69 s_ibit (Φ:=phiL []) phi_nil (phXL_cons ifail_ok (by kernel_rfl) phXL_nil) ?_
 intro xs hp x p hs hp'
 unfold ibitX at hs
 split at hs
 ·rename_i t k ps a v m et es rv ys
  split at hs
  ·cases hs
  ·rename_i e hb
   injection hs with hs; injection hs with e1 e2; subst e1 e2
   obtain ⟨h1,h2,h3⟩:=hp'
   obtain ⟨p,rfl⟩:∃ p:Nat,a=p:=⟨a.toNat,by omega⟩
   have hps:=h1.1
   generalize unB ps=b at *
   subst hps
   have hl:=inp_len h1
   rw [Int.toNat_natCast] at hb
   have hlt:8 * b.length≤p:=by
    rcases Nat.lt_or_ge p (8 * b.length) with h | h
    ·rw [bitE_lt h] at hb; cases hb
    ·exact h
   rw [bitE_ge hlt] at hb
   injection hb with hb; subst hb
   refine ⟨len_le (by kernel_rfl),?_⟩
   have c1:decide ((8:Int) * (b.length:Int)≤(p:Int))=true:=decide_eq_true (by omega)
   simp only [c_ibit,r_ibit,c1,ifailX,wrongV,Bs_len,go_sem,reduceDiv,reduceMod,↓reduceIte,reduceEqDiff,Nat.reduceBEq,reduceSub,Nat.reduceLT,reduceAdd,reduceLeDiff,reduceCtorEq,Int.reduceEq,Int.reduceNe,Int.reduceLT,Int.reduceLE,Int.reduceToNat]
   (first | omega | (simp only [lenOk,bytesOk,inI,IntKind.bits,List.length_append,Bs_len,List.length_cons,List.length_nil,List.length_map,List.length_take,List.length_drop,List.length_replicate]; omega))
 ·cases hs
theorem or_up64 (k b e:Nat) (hk:k<2 ^ e) (hb:b<2) (he:e<40):bits .or .i64 (k:Int) ((b:Int) * 2 ^ e)=((k+b * 2 ^ e:Nat):Int):=by
 have h1:(2:Nat) ^ e<2 ^ 40:=Nat.pow_lt_pow_right (by omega) he
 have h2:b * 2 ^ e≤2 ^ e:=by
  have:=Nat.mul_le_mul_right (2 ^ e) (show b≤1 by omega)
  omega
 have e1:(b:Int) * 2 ^ e=((b * 2 ^ e:Nat):Int):=by simp
 rw [e1,i64_or _ _ (by omega) (by omega),Nat.or_comm,nat_join e (b * 2 ^ e) k (by simp) hk,Nat.add_comm]
theorem numE_ok {B:List Bool} {p n x q:Nat} (h:numE B p n=.ok (x,q)):p+n≤B.length∧x=numB B p n∧q=p+n:=by
 unfold numE at h
 split at h
 ·injection h with h; injection h with e1 e2; exact ⟨by assumption,e1.symm,e2.symm⟩
 ·cases h
theorem numE_er {B:List Bool} {p n e:Nat} (h:numE B p n=.error e):B.length<p+n∧e=3:=by
 unfold numE at h
 split at h
 ·cases h
 ·injection h with h; exact ⟨by omega,h.symm⟩
theorem numB_bit {b:List UInt8} {p n:Nat} (h:p+n<8 * b.length):bitE (bitsOf b) (p+n)=.ok (((bitsOf b).getD (p+n) false).toNat,p+n+1):=by
 unfold bitE
 rw [List.getElem?_eq_getElem (by rw [bitsOf_length]; exact h)]
 simp [List.getD_eq_getElem?_getD,List.getElem?_eq_getElem (show p+n<(bitsOf b).length by rw [bitsOf_length]; exact h)]
def inumS:Spec:=fun xs hp=>match xs,hp with
 | [.ref 0 0 0,.int .i64 n],[.cells t [(1,.sl k ps),(1,.int .i64 a),(1,.own 1 v),(1,.int .i64 m)],.row et es rv ys]=>match numE (bitsOf (unB ps)) a.toNat n.toNat with
  | .ok (x,q)=>some ⟨.int .i64 (x:Int),[.cells t [(1,.sl k ps),(1,.int .i64 (q:Int)),(1,.own 1 v),(1,.int .i64 m)],.row et es rv ys],inpOk k ps∧0≤a∧0≤n∧n<40⟩
  | .error _=>none
 | _,_=>none
def inumX:XSpec:=fun xs hp=>match xs,hp with
 | [.ref 0 0 0,.int .i64 n],[.cells t [(1,.sl k ps),(1,.int .i64 a),(1,.own 1 v),(1,.int .i64 m)],.row et es rv ys]=>match numE (bitsOf (unB ps)) a.toNat n.toNat with
  | .ok _=>none
  | .error e=>some (wrongV e,inpOk k ps∧0≤a∧a≤8 * ((unB ps).length:Int)∧0≤n∧n<40)
 | _,_=>none
theorem inum_ok:FnOk Tryd.prog 70 inumS:=by
 refine fn_slim2 Tryd.func70 s_inum (Φ:=phiL [(69,[],ibitS)]) (phi_cons ibit_ok (by kernel_rfl) phi_nil) ?_
 intro xs hp r hs hp'
 unfold inumS at hs
 split at hs
 ·rename_i n t k ps a v m et es rv ys
  split at hs
  ·rename_i x q hb
   injection hs with hs; subst hs
   obtain ⟨h1,h2,h3,h4⟩:=hp'
   obtain ⟨p,rfl⟩:∃ p:Nat,a=p:=⟨a.toNat,by omega⟩
   obtain ⟨n,rfl⟩:∃ p:Nat,n=p:=⟨n.toNat,by omega⟩
   have hps:=h1.1
   generalize unB ps=b at *
   subst hps
   have hl:=inp_len h1
   simp only [Int.toNat_natCast] at hb
   obtain ⟨hb1,rfl,rfl⟩:=numE_ok hb
   rw [bitsOf_length] at hb1
   refine ⟨len_le (by kernel_rfl),?_⟩
   simp only [c_inum,go_sem,reduceDiv,reduceMod,↓reduceIte,reduceEqDiff,Nat.reduceBEq,reduceSub,Nat.reduceLT,reduceAdd,reduceLeDiff,reduceCtorEq,Int.reduceEq,Int.reduceNe,Int.reduceLT,Int.reduceLE,Int.reduceToNat]
   refine loop2P [] [0,5,7,8] [0,1] (fun i:Nat=>⟨[(0,.ref 0 0 0),(5,.int .i64 (numB (bitsOf b) p i:Int)),(7,.int .i64 (n:Int)),(8,.int .i64 (i:Int))],
    [.cells t [(1,.sl k (Bs b)),(1,.int .i64 ((p+i:Nat):Int)),(1,.own 1 v),(1,.int .i64 m)],.row et es rv ys]⟩)
    (fun i=>i≤n) (fun i=>n - i) 0 (by rfl) (Nat.zero_le _) ⟨rfl,by rfl⟩ (fun i hi R hR=>?_)
   by_cases hil:i<n
   ·have c1:decide ((i:Int)<(n:Int))=true:=decide_eq_true (by omega)
    have hbit:=numB_bit (b:=b) (p:=p) (n:=i) (by omega)
    have hor:=or_up64 (numB (bitsOf b) p i) ((bitsOf b).getD (p+i) false).toNat i (numB_lt _ _ _) (Bool.toNat_lt _) (by omega)
    simp only [b_inum_0,c1,ibitS,unB_Bs,Int.toNat_natCast,hbit,hor,go_sem,reduceDiv,reduceMod,↓reduceIte,reduceEqDiff,Nat.reduceBEq,reduceSub,Nat.reduceLT,reduceAdd,reduceLeDiff,reduceCtorEq,Int.reduceEq,Int.reduceNe,Int.reduceLT,Int.reduceLE,Int.reduceToNat]
    have h2:(2:Int) ^ i≤2 ^ 40:=by
     have:(2:Nat) ^ i≤2 ^ 40:=Nat.pow_le_pow_right (by omega) (by omega)
     exact_mod_cast this
    have h3:(0:Int)<2 ^ i:=by exact_mod_cast Nat.two_pow_pos i
    refine ⟨⟨h1,by omega⟩,⟨by omega,?_⟩,by (first | omega | (simp only [lenOk,bytesOk,inI,IntKind.bits,List.length_append,Bs_len,List.length_cons,List.length_nil,List.length_map,List.length_take,List.length_drop,List.length_replicate]; omega)),hR _ (i+1) hil (by omega) rfl⟩
    cases (bitsOf b).getD (p+i) false <;> simp [inI] <;> omega
   ·have c1:decide ((i:Int)<(n:Int))=false:=decide_eq_false (by omega)
    obtain rfl:i=n:=by omega
    simp only [b_inum_0,t_inum_0,r_inum,c1,go_sem,reduceDiv,reduceMod,↓reduceIte,reduceEqDiff,Nat.reduceBEq,reduceSub,Nat.reduceLT,reduceAdd,reduceLeDiff,reduceCtorEq,Int.reduceEq,Int.reduceNe,Int.reduceLT,Int.reduceLE,Int.reduceToNat]
  ·cases hs
 ·cases hs
theorem inum_px:FnPX Tryd.prog 70 inumX:=by
 refine fn_slimX (ΦX:=phXL [(69,[],ibitX)]) Tryd.func70 s_inum (Φ:=phiL [(69,[],ibitS)]) (phi_cons ibit_ok (by kernel_rfl) phi_nil) (phXL_cons ibit_px (by kernel_rfl) phXL_nil) ?_
 intro xs hp x0 p0 hs hp'
 unfold inumX at hs
 split at hs
 ·rename_i n t k ps a v m et es rv ys
  split at hs
  ·cases hs
  ·rename_i e hb
   injection hs with hs; injection hs with e1 e2; subst e1 e2
   obtain ⟨h1,h2,h2',h3,h4⟩:=hp'
   obtain ⟨p,rfl⟩:∃ p:Nat,a=p:=⟨a.toNat,by omega⟩
   obtain ⟨n,rfl⟩:∃ p:Nat,n=p:=⟨n.toNat,by omega⟩
   have hps:=h1.1
   generalize unB ps=b at *
   subst hps
   have hl:=inp_len h1
   simp only [Int.toNat_natCast] at hb
   obtain ⟨hb1,rfl⟩:=numE_er hb
   rw [bitsOf_length] at hb1
   refine ⟨len_le (by kernel_rfl),?_⟩
   simp only [c_inum,go_sem,reduceDiv,reduceMod,↓reduceIte,reduceEqDiff,Nat.reduceBEq,reduceSub,Nat.reduceLT,reduceAdd,reduceLeDiff,reduceCtorEq,Int.reduceEq,Int.reduceNe,Int.reduceLT,Int.reduceLE,Int.reduceToNat]
   refine loop3P [] [0,5,7,8] [0,1] (fun i:Nat=>⟨[(0,.ref 0 0 0),(5,.int .i64 (numB (bitsOf b) p i:Int)),(7,.int .i64 (n:Int)),(8,.int .i64 (i:Int))],
    [.cells t [(1,.sl k (Bs b)),(1,.int .i64 ((p+i:Nat):Int)),(1,.own 1 v),(1,.int .i64 m)],.row et es rv ys]⟩)
    (fun i=>p+i≤8 * b.length) (fun i=>n - i) 0 (by rfl) (by omega) ⟨rfl,by rfl⟩ (fun i hi R hR=>?_)
   have c1:decide ((i:Int)<(n:Int))=true:=decide_eq_true (by omega)
   by_cases hil:p+i<8 * b.length
   ·have hbit:=numB_bit (b:=b) (p:=p) (n:=i) (by omega)
    have hor:=or_up64 (numB (bitsOf b) p i) ((bitsOf b).getD (p+i) false).toNat i (numB_lt _ _ _) (Bool.toNat_lt _) (by omega)
    simp only [b_inum_0,c1,ibitS,ibitX,unB_Bs,Int.toNat_natCast,hbit,hor,go_sem,reduceDiv,reduceMod,↓reduceIte,reduceEqDiff,Nat.reduceBEq,reduceSub,Nat.reduceLT,reduceAdd,reduceLeDiff,reduceCtorEq,Int.reduceEq,Int.reduceNe,Int.reduceLT,Int.reduceLE,Int.reduceToNat]
    have h2:(2:Int) ^ i≤2 ^ 40:=by
     have:(2:Nat) ^ i≤2 ^ 40:=Nat.pow_le_pow_right (by omega) (by omega)
     exact_mod_cast this
    have h3:(0:Int)<2 ^ i:=by exact_mod_cast Nat.two_pow_pos i
    refine ⟨⟨h1,by omega⟩,⟨by omega,?_⟩,by (first | omega | (simp only [lenOk,bytesOk,inI,IntKind.bits,List.length_append,Bs_len,List.length_cons,List.length_nil,List.length_map,List.length_take,List.length_drop,List.length_replicate]; omega)),hR _ (i+1) hil (by omega) rfl⟩
    cases (bitsOf b).getD (p+i) false <;> simp [inI] <;> omega
   ·have hbit:=bitE_ge (b:=b) (p:=p+i) (by omega)
    simp only [b_inum_0,c1,ibitS,ibitX,wrongV,unB_Bs,Int.toNat_natCast,hbit,go_sem,reduceDiv,reduceMod,↓reduceIte,reduceEqDiff,Nat.reduceBEq,reduceSub,Nat.reduceLT,reduceAdd,reduceLeDiff,reduceCtorEq,Int.reduceEq,Int.reduceNe,Int.reduceLT,Int.reduceLE,Int.reduceToNat]
    exact ⟨h1,by omega,by omega⟩
 ·cases hs
structure AdI where
 i:Nat
 x:Nat
 y:Nat
def adlmS:Spec:=fun xs hp=>match xs,hp with
 | [.int .u32 1,.sl k ps],[]=>some ⟨.int .u32 (adlN (unB ps):Int),[],ps=Bs (unB ps)∧(k=1∨ps=[])∧(unB ps).length≤1000000000⟩
 | _,_=>none
theorem u32_wrap (n:Nat) (h:n<4294967296):IntKind.u32.wrap (n:Int)=(n:Int):=by
 simp only [IntKind.wrap,IntKind.signed,IntKind.bits]; simp; omega
theorem sl_k1 {k:Nat} {b:List UInt8} (h:k=1∨Bs b=[]) (h0:0<b.length):k=1:=by
 rcases h with h | h
 ·exact h
 ·have h' : (Bs b).length=0:=by rw [h]; rfl
  rw [Bs_length] at h'; omega
theorem u32_or (a b:Nat) (ha:a<4294967296) (hb:b<4294967296):bits .or .u32 (a:Int) (b:Int)=((a ||| b:Nat):Int):=by
 have hx:a ||| b<2 ^ 32:=Nat.or_lt_two_pow (by omega) (by omega)
 have h1:(BitVec.ofInt 32 (a:Int)).toNat=a:=by
  rw [BitVec.ofInt_natCast,BitVec.toNat_ofNat]; exact Nat.mod_eq_of_lt (by omega)
 have h2:(BitVec.ofInt 32 (b:Int)).toNat=b:=by
  rw [BitVec.ofInt_natCast,BitVec.toNat_ofNat]; exact Nat.mod_eq_of_lt (by omega)
 show IntKind.u32.wrap ((BitVec.ofInt 32 (a:Int) ||| BitVec.ofInt 32 (b:Int)).toNat:Int)=_
 rw [BitVec.toNat_or,h1,h2]
 exact u32_wrap _ hx
theorem adl_or (x y:Nat) (hx:x<65536) (hy:y<65536):bits .or .u32 (IntKind.u32.wrap ((y:Int) * 2 ^ 16)) (x:Int)=((y * 65536+x:Nat):Int):=by
 rw [show (y:Int) * 2 ^ 16=((y * 2 ^ 16:Nat):Int) by omega,u32_wrap _ (by omega),u32_or _ _ (by omega) (by omega),nat_join 16 (y * 2 ^ 16) x (by simp) hx]
set_option maxRecDepth 8000 in
theorem adlm_ok:FnOk Tryd.prog 54 adlmS:=by
 refine fn_slim2 Tryd.func54 s_adlm (Φ:=phiL []) phi_nil ?_
 intro xs hp r hs hp'
 unfold adlmS at hs
 split at hs
 ·rename_i k ps
  injection hs with hs; subst hs
  obtain ⟨h1,h2,h3⟩:=hp'
  generalize unB ps=b at *
  subst h1
  refine ⟨len_le (by kernel_rfl),?_⟩
  simp only [c_adlm,Bs_len,go_sem,reduceDiv,reduceMod,↓reduceIte,reduceEqDiff,Nat.reduceBEq,reduceSub,Nat.reduceLT,reduceAdd,reduceLeDiff,reduceCtorEq,Int.reduceEq,Int.reduceNe,Int.reduceLT,Int.reduceLE,Int.reduceToNat]
  refine loop2P [] [5,6,13,14,15] [] (fun i:AdI=>⟨[(5,.int .u32 (i.x:Int)),(6,.int .u32 (i.y:Int)),(13,.sl k (Bs b)),(14,.int .i64 (b.length:Int)),(15,.int .i64 (i.i:Int))],[]⟩) (fun i=>i.i≤b.length∧adlX (b.drop i.i) i.x i.y=adlX b 1 0∧i.x<65521∧i.y<65521) (fun i=>b.length - i.i) ⟨0,1,0⟩ (by rfl) ⟨Nat.zero_le _,rfl,by decide,by decide⟩ ⟨rfl,by rfl⟩ (fun i hi R hR=>?_)
  obtain ⟨i,x,y⟩:=i
  obtain ⟨i1,i2,i3,i4⟩:=hi
  simp only at i1 i2 i3 i4
  by_cases hl:i<b.length
  ·have c1:decide ((i:Int)<(b.length:Int))=true:=decide_eq_true (by omega)
   obtain rfl:k=1:=sl_k1 h2 (by omega)
   have hc:(b.getD i 0).toNat<256:=(b.getD i 0).toNat_lt
   have w1:IntKind.u32.wrap ((b.getD i 0).toNat:Int)=((b.getD i 0).toNat:Int):=u32_wrap _ (by omega)
   have w2:IntKind.u32.wrap ((x:Int)+((b.getD i 0).toNat:Int))=((x+(b.getD i 0).toNat:Nat):Int):=u32_wrap (x+(b.getD i 0).toNat) (by omega)
   have w3:((x+(b.getD i 0).toNat:Nat):Int).tmod 65521=(((x+(b.getD i 0).toNat) % 65521:Nat):Int):=rfl
   have w4:IntKind.u32.wrap ((y:Int)+(((x+(b.getD i 0).toNat) % 65521:Nat):Int))=((y+(x+(b.getD i 0).toNat) % 65521:Nat):Int):=u32_wrap (y+(x+(b.getD i 0).toNat) % 65521) (by omega)
   have w5:((y+(x+(b.getD i 0).toNat) % 65521:Nat):Int).tmod 65521=(((y+(x+(b.getD i 0).toNat) % 65521) % 65521:Nat):Int):=rfl
   simp only [b_adlm_0,c1,w1,w2,w3,w4,w5,Int.toNat_natCast,Bs_len,go_sem,reduceDiv,reduceMod,↓reduceIte,reduceEqDiff,Nat.reduceBEq,reduceSub,Nat.reduceLT,reduceAdd,reduceLeDiff,reduceCtorEq,Int.reduceEq,Int.reduceNe,Int.reduceLT,Int.reduceLE,Int.reduceToNat]
   have hd:adlX (b.drop (i+1)) ((x+(b.getD i 0).toNat) % 65521) ((y+(x+(b.getD i 0).toNat) % 65521) % 65521)=adlX b 1 0:=by
    rw [← i2,List.drop_eq_getElem_cons hl,show b.getD i 0=b[i] by simp [List.getD_eq_getElem?_getD,hl]]; rfl
   exact ⟨⟨by omega,by omega⟩,by (first | omega | (simp only [lenOk,bytesOk,inI,IntKind.bits,List.length_append,Bs_len,List.length_cons,List.length_nil,List.length_map,List.length_take,List.length_drop,List.length_replicate]; omega)),hR _ ⟨i+1,_,_⟩ ⟨by simp only; omega,hd,Nat.mod_lt _ (by omega),Nat.mod_lt _ (by omega)⟩ (by simp only; omega) rfl⟩
  ·have c1:decide ((i:Int)<(b.length:Int))=false:=decide_eq_false (by omega)
   obtain rfl:i=b.length:=by omega
   simp only [b_adlm_0,t_adlm_0,r_adlm,c1,go_sem,reduceDiv,reduceMod,↓reduceIte,reduceEqDiff,Nat.reduceBEq,reduceSub,Nat.reduceLT,reduceAdd,reduceLeDiff,reduceCtorEq,Int.reduceEq,Int.reduceNe,Int.reduceLT,Int.reduceLE,Int.reduceToNat]
   rw [List.drop_length] at i2
   have e:adlN b=y * 65536+x:=by unfold adlN; rw [← i2]; rfl
   rw [adl_or x y (by omega) (by omega),e]
 ·cases hs
def adlerS:Spec:=fun xs hp=>match xs,hp with
 | [.sl k ps],[]=>some ⟨.int .u32 (adlN (unB ps):Int),[],ps=Bs (unB ps)∧(k=1∨ps=[])∧(unB ps).length≤1000000000⟩
 | _,_=>none
theorem adler_ok:FnOk Tryd.prog 32 adlerS:=by
 refine fn_slim2 Tryd.func32 s_adler (Φ:=phiL [(54,[],adlmS)]) (phi_cons adlm_ok (by kernel_rfl) phi_nil) ?_
 intro xs hp r hs hp'
 unfold adlerS at hs
 split at hs
 ·rename_i k ps
  injection hs with hs; subst hs
  refine ⟨len_le (by kernel_rfl),?_⟩
  simp only [c_adler,r_adler,adlmS,go_sem,reduceDiv,reduceMod,↓reduceIte,reduceEqDiff,Nat.reduceBEq,reduceSub,Nat.reduceLT,reduceAdd,reduceLeDiff,reduceCtorEq,Int.reduceEq,Int.reduceNe,Int.reduceLT,Int.reduceLE,Int.reduceToNat]
  exact hp'
 ·cases hs
def zfourS:Spec:=fun xs hp=>match xs,hp with
 | [.int .u32 n],[]=>some ⟨.blob ((tail4 n.toNat).map U),[],0≤n∧n<4294967296⟩
 | _,_=>none
set_option maxRecDepth 8000 in
theorem zfour_ok:FnOk Tryd.prog 31 zfourS:=by
 refine fn_slim2 Tryd.func31 s_zfour (Φ:=phiL []) phi_nil ?_
 intro xs hp r hs hp'
 unfold zfourS at hs
 split at hs
 ·rename_i n
  injection hs with hs; subst hs
  obtain ⟨h1,h2⟩:=hp'
  obtain ⟨n,rfl⟩:=Int.eq_ofNat_of_zero_le h1
  refine ⟨len_le (by kernel_rfl),?_⟩
  simp only [c_zfour,r_zfour,go_sem,reduceDiv,reduceMod,↓reduceIte,reduceEqDiff,Nat.reduceBEq,reduceSub,Nat.reduceLT,reduceAdd,reduceLeDiff,reduceCtorEq,Int.reduceEq,Int.reduceNe,Int.reduceLT,Int.reduceLE,Int.reduceToNat]
  have w (z:Nat):IntKind.u8.wrap (z:Int)=((z % 256:Nat):Int):=by
   simp only [IntKind.wrap,IntKind.signed,IntKind.bits]; simp
  have e1:(n:Int) / 2 ^ 24=((n / 16777216:Nat):Int):=by omega
  have e2:(n:Int) / 2 ^ 16=((n / 65536:Nat):Int):=by omega
  have e3:(n:Int) / 2 ^ 8=((n / 256:Nat):Int):=by omega
  rw [e1,e2,e3,w,w,w,w]
  simp [tail4,U]
 ·cases hs
theorem packB_get:∀ (k:Nat) (W:List Bool) (i:Nat),W.length<k→(packB k W)[i]?=if 8 * i<W.length then some (UInt8.ofNat (valB ((W.drop (8 * i)).take 8))) else none
 | k+1,W,i,h=>by
  unfold packB
  by_cases hW:W=[]
  ·subst hW; rw [if_pos rfl]; simp
  ·have hl:0<W.length:=by
    cases W with
    | nil=>exact absurd rfl hW
    | cons _ _=>simp
   rw [if_neg hW]
   cases i with
   | zero=>rw [List.getElem?_cons_zero,if_pos (by omega)]; rfl
   | succ i =>
    rw [List.getElem?_cons_succ,packB_get k (W.drop 8) i (by rw [List.length_drop]; omega),List.length_drop,List.drop_drop,show 8+8 * i=8 * (i+1) by omega]
    by_cases h2:8 * (i+1)<W.length
    ·rw [if_pos h2,if_pos (by omega)]
    ·rw [if_neg h2,if_neg (by omega)]
theorem packW_get (W:List Bool) (i:Nat):(packW W)[i]?=if 8 * i<W.length then some (UInt8.ofNat (valB ((W.drop (8 * i)).take 8))) else none:=packB_get _ W i (by omega)
theorem packW_len (W:List Bool):(packW W).length=(W.length+7) / 8:=by obtain ⟨z,_,_,h⟩:=packW_bits W; exact h
theorem valB_snoc:∀ (x:List Bool) (b:Bool),valB (x ++ [b])=valB x+b.toNat * 2 ^ x.length
 | [],b=>by simp [valB]
 | c :: x,b=>by
  rw [List.cons_append,valB,valB,valB_snoc x b,List.length_cons,Nat.pow_succ,Nat.mul_add,← Nat.add_assoc]
  congr 1
  rw [Nat.mul_comm 2,Nat.mul_assoc]
def roomW (W:List Bool):List UInt8:=if W.length % 8=0 then packW W ++ [0] else packW W
theorem put_next (W:List Bool) (x:Bool):W.length / 8<(roomW W).length∧((roomW W).getD (W.length / 8) 0).toNat<2 ^ (W.length % 8) ∧
  packW (W ++ [x])=(roomW W).set (W.length / 8) (UInt8.ofNat (((roomW W).getD (W.length / 8) 0).toNat+x.toNat * 2 ^ (W.length % 8))):=by
 have hlen:=packW_len W
 have hrl:(roomW W).length=W.length / 8+1:=by
  unfold roomW
  split
  ·rw [List.length_append,hlen]; simp; omega
  ·rw [hlen]; omega
 have hdl:(W.drop (8 * (W.length / 8))).length=W.length % 8:=by rw [List.length_drop]; omega
 have hv:=valB_lt (W.drop (8 * (W.length / 8)))
 rw [hdl] at hv
 have h2:(2:Nat) ^ (W.length % 8)≤2 ^ 7:=Nat.pow_le_pow_right (by omega) (by omega)
 have hget:((roomW W).getD (W.length / 8) 0).toNat=valB (W.drop (8 * (W.length / 8))):=by
  unfold roomW
  split
  ·rename_i h0
   have e0:W.drop (8 * (W.length / 8))=[]:=List.drop_eq_nil_iff.2 (by omega)
   rw [e0,List.getD_eq_getElem?_getD,List.getElem?_append_right (by rw [hlen]; omega),hlen,show W.length / 8 - (W.length+7) / 8=0 by omega]; rfl
  ·rename_i h0
   rw [List.getD_eq_getElem?_getD,packW_get,if_pos (by omega),Option.getD_some,List.take_of_length_le (by rw [hdl]; omega),UInt8.toNat_ofNat']
   omega
 refine ⟨by omega,by rw [hget]; exact hv,?_⟩
 refine List.ext_getElem? fun i=>?_
 rw [packW_get,List.length_append,List.length_singleton,List.getElem?_set,hget]
 by_cases hi:W.length / 8=i
 ·subst hi
  rw [if_pos (by omega),if_pos rfl,if_pos (by omega),List.drop_append_of_le_length (by omega),List.take_of_length_le (by rw [List.length_append,hdl]; simp; omega),valB_snoc,hdl]
 ·rw [if_neg hi]
  by_cases hlt:i<W.length / 8
  ·rw [if_pos (by omega),List.drop_append_of_le_length (by omega),List.take_append_of_le_length (by rw [List.length_drop]; omega)]
   unfold roomW
   have hp:(packW W)[i]?=some (UInt8.ofNat (valB ((W.drop (8 * i)).take 8))):=by rw [packW_get,if_pos (by omega)]
   split
   ·rw [List.getElem?_append_left (by rw [hlen]; omega),hp]
   ·rw [hp]
  ·rw [if_neg (by omega),List.getElem?_eq_none (by omega)]
end Go.Proofs.YtakolikdebfkeaaDoor
