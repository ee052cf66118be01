/- The document's sum, on abstract values. -/
import Derived.Test.YtbefhofmbiedgaaT2
import Derived.Test.YtbefhofmbiedgaaShaLaw
namespace Go.Proofs.Ytbefhofmbiedgaa
set_option linter.all false
open Go.RowKit
/-! tramway/tramwayref02.Sum -/
def b_rsum_0 : ACode := (.seq (.seq (.reg none [⟨(some 31), (.mv (.t 3)), none⟩, ⟨(some 32), (.len none false (.t 31)), none⟩, ⟨(some 33), (.bin .rem (.t 32) (.c (.int .i64 64))), none⟩, ⟨(some 34), (.bin .neq (.t 33) (.c (.int .i64 56))), none⟩]) (.cond (.t 34) .skip (.exit 0))) (.block 1 (.reg none [⟨(some 35), (.mv (.t 3)), none⟩, ⟨(some 36), (.buildSl 5 1 [(.c (.int .u8 0))]), none⟩, ⟨(some 37), (.app 5 1 1 (.t 35) (.t 36)), none⟩, ⟨(some 3), (.mv (.t 37)), none⟩])))
def b_rsum_1 : ACode := (.seq (.seq (.reg none [⟨(some 41), (.mv (.t 6)), none⟩, ⟨(some 42), (.bin .geq (.t 41) (.c (.int .i64 0))), none⟩]) (.cond (.t 42) .skip (.exit 2))) (.seq (.block 3 (.seq (.reg none [⟨(some 45), (.mv (.t 6)), none⟩, ⟨(some 46), (.mv (.t 4)), none⟩, ⟨(some 47), (.bin .rem (.t 46) (.c (.int .i64 256))), none⟩, ⟨(some 48), (.toInt .u8 (.t 47)), none⟩, ⟨(some 49), (.iaA 8 (.t 5) (.t 45)), none⟩, ⟨none, (.st (.one (.int .u8 0)) (.t 49) (.t 48)), none⟩]) (.reg none [⟨(some 50), (.mv (.t 4)), none⟩, ⟨(some 51), (.bin .quo (.t 50) (.c (.int .i64 256))), none⟩, ⟨(some 4), (.mv (.t 51)), none⟩]))) (.reg none [⟨(some 43), (.mv (.t 6)), none⟩, ⟨(some 44), (.bin .sub (.t 43) (.c (.int .i64 1))), none⟩, ⟨(some 6), (.mv (.t 44)), none⟩])))
def b_rsum_2 : ACode := (.seq (.seq (.reg none [⟨(some 52), (.mv (.t 7)), none⟩, ⟨(some 53), (.bin .lss (.t 52) (.c (.int .i64 8))), none⟩]) (.cond (.t 53) .skip (.exit 4))) (.seq (.block 5 (.reg none [⟨(some 56), (.mv (.t 3)), none⟩, ⟨(some 57), (.mv (.t 7)), none⟩, ⟨(some 58), (.iaA 8 (.t 5) (.t 57)), none⟩, ⟨(some 59), (.ld (.one (.int .u8 0)) (.t 58)), none⟩, ⟨(some 60), (.buildSl 5 1 [(.t 59)]), none⟩, ⟨(some 61), (.app 5 1 1 (.t 56) (.t 60)), none⟩, ⟨(some 3), (.mv (.t 61)), none⟩])) (.reg none [⟨(some 54), (.mv (.t 7)), none⟩, ⟨(some 55), (.bin .add (.t 54) (.c (.int .i64 1))), none⟩, ⟨(some 7), (.mv (.t 55)), none⟩])))
def b_rsum_3 : ACode := (.seq (.seq (.reg none [⟨(some 69), (.mv (.t 11)), none⟩, ⟨(some 70), (.bin .lss (.t 69) (.c (.int .i64 16))), none⟩]) (.cond (.t 70) .skip (.exit 8))) (.seq (.block 9 (.seq (.reg none [⟨(some 73), (.mv (.t 9)), none⟩, ⟨(some 74), (.mv (.t 11)), none⟩, ⟨(some 75), (.bin .mul (.c (.int .i64 4)) (.t 74)), none⟩, ⟨(some 76), (.bin .add (.t 73) (.t 75)), none⟩, ⟨(some 12), (.mv (.t 76)), none⟩]) (.reg (some [(0, false), (1, false), (2, false), (3, false), (4, false), (5, false), (6, false), (7, false), (8, false), (9, false), (10, false), (11, false), (12, false), (13, false), (14, false), (15, false), (16, false), (17, false), (18, false), (19, false), (20, false), (21, false), (22, false), (23, false), (24, false), (25, false), (26, false), (27, false), (28, false), (29, false), (30, true), (31, true)]) [⟨(some 77), (.mv (.t 11)), none⟩, ⟨(some 78), (.mv (.t 3)), none⟩, ⟨(some 79), (.mv (.t 12)), none⟩, ⟨(some 80), (.ia 1 (.int .u8 0) (.t 78) (.t 79)), none⟩, ⟨(some 81), (.ld (.one (.int .u8 0)) (.t 80)), none⟩, ⟨(some 82), (.toInt .i64 (.t 81)), none⟩, ⟨(some 83), (.bin .mul (.t 82) (.c (.int .i64 16777216))), none⟩, ⟨(some 84), (.mv (.t 3)), none⟩, ⟨(some 85), (.mv (.t 12)), none⟩, ⟨(some 86), (.bin .add (.t 85) (.c (.int .i64 1))), none⟩, ⟨(some 87), (.ia 1 (.int .u8 0) (.t 84) (.t 86)), none⟩, ⟨(some 88), (.ld (.one (.int .u8 0)) (.t 87)), none⟩, ⟨(some 89), (.toInt .i64 (.t 88)), none⟩, ⟨(some 90), (.bin .mul (.t 89) (.c (.int .i64 65536))), none⟩, ⟨(some 91), (.bin .add (.t 83) (.t 90)), none⟩, ⟨(some 92), (.mv (.t 3)), none⟩, ⟨(some 93), (.mv (.t 12)), none⟩, ⟨(some 94), (.bin .add (.t 93) (.c (.int .i64 2))), none⟩, ⟨(some 95), (.ia 1 (.int .u8 0) (.t 92) (.t 94)), none⟩, ⟨(some 96), (.ld (.one (.int .u8 0)) (.t 95)), none⟩, ⟨(some 97), (.toInt .i64 (.t 96)), none⟩, ⟨(some 98), (.bin .mul (.t 97) (.c (.int .i64 256))), none⟩, ⟨(some 99), (.bin .add (.t 91) (.t 98)), none⟩, ⟨(some 100), (.mv (.t 3)), none⟩, ⟨(some 101), (.mv (.t 12)), none⟩, ⟨(some 102), (.bin .add (.t 101) (.c (.int .i64 3))), none⟩, ⟨(some 103), (.ia 1 (.int .u8 0) (.t 100) (.t 102)), none⟩, ⟨(some 104), (.ld (.one (.int .u8 0)) (.t 103)), none⟩, ⟨(some 105), (.toInt .i64 (.t 104)), none⟩, ⟨(some 106), (.bin .add (.t 99) (.t 105)), none⟩, ⟨(some 107), (.iaA 80 (.t 10) (.t 77)), none⟩, ⟨none, (.st (.one (.int .i64 0)) (.t 107) (.t 106)), none⟩]))) (.reg none [⟨(some 71), (.mv (.t 11)), none⟩, ⟨(some 72), (.bin .add (.t 71) (.c (.int .i64 1))), none⟩, ⟨(some 11), (.mv (.t 72)), none⟩])))
def b_rsum_4 : ACode := (.seq (.seq (.reg none [⟨(some 108), (.mv (.t 13)), none⟩, ⟨(some 109), (.bin .lss (.t 108) (.c (.int .i64 80))), none⟩]) (.cond (.t 109) .skip (.exit 10))) (.seq (.block 11 (.reg (some [(0, false), (1, false), (2, false), (3, false), (4, false), (5, false), (6, false), (7, false), (8, false), (9, false), (10, false), (11, false), (12, false), (13, false), (14, false), (15, false), (16, false), (17, false), (18, false), (19, false), (20, false), (21, true), (22, true)]) [⟨(some 112), (.mv (.t 13)), none⟩, ⟨(some 113), (.mv (.t 13)), none⟩, ⟨(some 114), (.bin .sub (.t 113) (.c (.int .i64 3))), none⟩, ⟨(some 115), (.iaA 80 (.t 10) (.t 114)), none⟩, ⟨(some 116), (.ld (.one (.int .i64 0)) (.t 115)), none⟩, ⟨(some 117), (.mv (.t 13)), none⟩, ⟨(some 118), (.bin .sub (.t 117) (.c (.int .i64 8))), none⟩, ⟨(some 119), (.iaA 80 (.t 10) (.t 118)), none⟩, ⟨(some 120), (.ld (.one (.int .i64 0)) (.t 119)), none⟩, ⟨(some 121), (.bin .xor (.t 116) (.t 120)), none⟩, ⟨(some 122), (.mv (.t 13)), none⟩, ⟨(some 123), (.bin .sub (.t 122) (.c (.int .i64 14))), none⟩, ⟨(some 124), (.iaA 80 (.t 10) (.t 123)), none⟩, ⟨(some 125), (.ld (.one (.int .i64 0)) (.t 124)), none⟩, ⟨(some 126), (.bin .xor (.t 121) (.t 125)), none⟩, ⟨(some 127), (.mv (.t 13)), none⟩, ⟨(some 128), (.bin .sub (.t 127) (.c (.int .i64 16))), none⟩, ⟨(some 129), (.iaA 80 (.t 10) (.t 128)), none⟩, ⟨(some 130), (.ld (.one (.int .i64 0)) (.t 129)), none⟩, ⟨(some 131), (.bin .xor (.t 126) (.t 130)), none⟩, ⟨(some 132), (.call 20 [(.t 131), (.c (.int .i64 1))]), none⟩, ⟨(some 133), (.iaA 80 (.t 10) (.t 112)), none⟩, ⟨none, (.st (.one (.int .i64 0)) (.t 133) (.t 132)), none⟩])) (.reg none [⟨(some 110), (.mv (.t 13)), none⟩, ⟨(some 111), (.bin .add (.t 110) (.c (.int .i64 1))), none⟩, ⟨(some 13), (.mv (.t 111)), none⟩])))
def b_rsum_5 : ACode := (.seq (.seq (.reg none [⟨(some 144), (.mv (.t 19)), none⟩, ⟨(some 145), (.bin .lss (.t 144) (.c (.int .i64 80))), none⟩]) (.cond (.t 145) .skip (.exit 12))) (.seq (.block 13 (.seq (.reg none [⟨(some 20), (.mv (.c (.int .i64 0))), none⟩, ⟨(some 21), (.mv (.c (.int .i64 0))), none⟩]) (.seq (.seq (.reg none [⟨(some 148), (.mv (.t 19)), none⟩, ⟨(some 149), (.bin .quo (.t 148) (.c (.int .i64 20))), none⟩]) (.block 14 (.seq (.reg none [⟨(some 156), (.bin .eql (.t 149) (.c (.int .i64 0))), none⟩, ⟨(some 155), (.mv (.t 156)), none⟩]) (.cond (.t 155) (.seq (.reg none [⟨(some 157), (.mv (.t 15)), none⟩, ⟨(some 158), (.mv (.t 16)), none⟩, ⟨(some 159), (.bin .and (.t 157) (.t 158)), none⟩, ⟨(some 160), (.mv (.t 15)), none⟩, ⟨(some 161), (.bin .sub (.c (.int .i64 4294967295)) (.t 160)), none⟩, ⟨(some 162), (.mv (.t 17)), none⟩, ⟨(some 163), (.bin .and (.t 161) (.t 162)), none⟩, ⟨(some 164), (.bin .or (.t 159) (.t 163)), none⟩, ⟨(some 20), (.mv (.t 164)), none⟩]) (.reg none [⟨(some 21), (.mv (.c (.int .i64 1518500249))), none⟩])) (.seq (.reg none [⟨(some 166), (.bin .eql (.t 149) (.c (.int .i64 1))), none⟩, ⟨(some 165), (.mv (.t 166)), none⟩]) (.cond (.t 165) (.seq (.reg none [⟨(some 167), (.mv (.t 15)), none⟩, ⟨(some 168), (.mv (.t 16)), none⟩, ⟨(some 169), (.bin .xor (.t 167) (.t 168)), none⟩, ⟨(some 170), (.mv (.t 17)), none⟩, ⟨(some 171), (.bin .xor (.t 169) (.t 170)), none⟩, ⟨(some 20), (.mv (.t 171)), none⟩]) (.reg none [⟨(some 21), (.mv (.c (.int .i64 1859775393))), none⟩])) (.seq (.reg none [⟨(some 173), (.bin .eql (.t 149) (.c (.int .i64 2))), none⟩, ⟨(some 172), (.mv (.t 173)), none⟩]) (.cond (.t 172) (.seq (.reg none [⟨(some 174), (.mv (.t 15)), none⟩, ⟨(some 175), (.mv (.t 16)), none⟩, ⟨(some 176), (.bin .and (.t 174) (.t 175)), none⟩, ⟨(some 177), (.mv (.t 15)), none⟩, ⟨(some 178), (.mv (.t 17)), none⟩, ⟨(some 179), (.bin .and (.t 177) (.t 178)), none⟩, ⟨(some 180), (.bin .or (.t 176) (.t 179)), none⟩, ⟨(some 181), (.mv (.t 16)), none⟩, ⟨(some 182), (.mv (.t 17)), none⟩, ⟨(some 183), (.bin .and (.t 181) (.t 182)), none⟩, ⟨(some 184), (.bin .or (.t 180) (.t 183)), none⟩, ⟨(some 20), (.mv (.t 184)), none⟩]) (.reg none [⟨(some 21), (.mv (.c (.int .i64 2400959708))), none⟩])) (.seq (.reg none [⟨(some 150), (.mv (.t 15)), none⟩, ⟨(some 151), (.mv (.t 16)), none⟩, ⟨(some 152), (.bin .xor (.t 150) (.t 151)), none⟩, ⟨(some 153), (.mv (.t 17)), none⟩, ⟨(some 154), (.bin .xor (.t 152) (.t 153)), none⟩, ⟨(some 20), (.mv (.t 154)), none⟩]) (.reg none [⟨(some 21), (.mv (.c (.int .i64 3395469782))), none⟩])))))))))) (.seq (.reg (some [(0, false), (1, false), (1, false), (3, false), (1, false), (5, false), (1, false), (7, false), (1, false), (1, false), (1, false), (11, true), (12, true), (13, true)]) [⟨(some 185), (.mv (.t 14)), none⟩, ⟨(some 186), (.call 20 [(.t 185), (.c (.int .i64 5))]), none⟩, ⟨(some 187), (.mv (.t 20)), none⟩, ⟨(some 188), (.bin .add (.t 186) (.t 187)), none⟩, ⟨(some 189), (.mv (.t 18)), none⟩, ⟨(some 190), (.bin .add (.t 188) (.t 189)), none⟩, ⟨(some 191), (.mv (.t 21)), none⟩, ⟨(some 192), (.bin .add (.t 190) (.t 191)), none⟩, ⟨(some 193), (.mv (.t 19)), none⟩, ⟨(some 194), (.iaA 80 (.t 10) (.t 193)), none⟩, ⟨(some 195), (.ld (.one (.int .i64 0)) (.t 194)), none⟩, ⟨(some 196), (.bin .add (.t 192) (.t 195)), none⟩, ⟨(some 197), (.bin .rem (.t 196) (.c (.int .i64 4294967296))), none⟩, ⟨(some 22), (.mv (.t 197)), none⟩]) (.seq (.reg none [⟨(some 198), (.mv (.t 17)), none⟩, ⟨(some 18), (.mv (.t 198)), none⟩]) (.seq (.reg none [⟨(some 199), (.mv (.t 16)), none⟩, ⟨(some 17), (.mv (.t 199)), none⟩]) (.seq (.reg none [⟨(some 200), (.mv (.t 15)), none⟩, ⟨(some 201), (.call 20 [(.t 200), (.c (.int .i64 30))]), none⟩, ⟨(some 16), (.mv (.t 201)), none⟩]) (.seq (.reg none [⟨(some 202), (.mv (.t 14)), none⟩, ⟨(some 15), (.mv (.t 202)), none⟩]) (.reg none [⟨(some 203), (.mv (.t 22)), none⟩, ⟨(some 14), (.mv (.t 203)), none⟩]))))))))) (.reg none [⟨(some 146), (.mv (.t 19)), none⟩, ⟨(some 147), (.bin .add (.t 146) (.c (.int .i64 1))), none⟩, ⟨(some 19), (.mv (.t 147)), none⟩])))
def t_rsum_0 : ACode := (.seq (.reg none [⟨(some 204), (.iaA 5 (.t 8) (.c (.int .i64 0))), none⟩, ⟨(some 205), (.ld (.one (.int .i64 0)) (.t 204)), none⟩, ⟨(some 206), (.mv (.t 14)), none⟩, ⟨(some 207), (.bin .add (.t 205) (.t 206)), none⟩, ⟨(some 208), (.bin .rem (.t 207) (.c (.int .i64 4294967296))), none⟩, ⟨(some 209), (.iaA 5 (.t 8) (.c (.int .i64 0))), none⟩, ⟨none, (.st (.one (.int .i64 0)) (.t 209) (.t 208)), none⟩]) (.seq (.reg none [⟨(some 210), (.iaA 5 (.t 8) (.c (.int .i64 1))), none⟩, ⟨(some 211), (.ld (.one (.int .i64 0)) (.t 210)), none⟩, ⟨(some 212), (.mv (.t 15)), none⟩, ⟨(some 213), (.bin .add (.t 211) (.t 212)), none⟩, ⟨(some 214), (.bin .rem (.t 213) (.c (.int .i64 4294967296))), none⟩, ⟨(some 215), (.iaA 5 (.t 8) (.c (.int .i64 1))), none⟩, ⟨none, (.st (.one (.int .i64 0)) (.t 215) (.t 214)), none⟩]) (.seq (.reg none [⟨(some 216), (.iaA 5 (.t 8) (.c (.int .i64 2))), none⟩, ⟨(some 217), (.ld (.one (.int .i64 0)) (.t 216)), none⟩, ⟨(some 218), (.mv (.t 16)), none⟩, ⟨(some 219), (.bin .add (.t 217) (.t 218)), none⟩, ⟨(some 220), (.bin .rem (.t 219) (.c (.int .i64 4294967296))), none⟩, ⟨(some 221), (.iaA 5 (.t 8) (.c (.int .i64 2))), none⟩, ⟨none, (.st (.one (.int .i64 0)) (.t 221) (.t 220)), none⟩]) (.seq (.reg none [⟨(some 222), (.iaA 5 (.t 8) (.c (.int .i64 3))), none⟩, ⟨(some 223), (.ld (.one (.int .i64 0)) (.t 222)), none⟩, ⟨(some 224), (.mv (.t 17)), none⟩, ⟨(some 225), (.bin .add (.t 223) (.t 224)), none⟩, ⟨(some 226), (.bin .rem (.t 225) (.c (.int .i64 4294967296))), none⟩, ⟨(some 227), (.iaA 5 (.t 8) (.c (.int .i64 3))), none⟩, ⟨none, (.st (.one (.int .i64 0)) (.t 227) (.t 226)), none⟩]) (.reg none [⟨(some 228), (.iaA 5 (.t 8) (.c (.int .i64 4))), none⟩, ⟨(some 229), (.ld (.one (.int .i64 0)) (.t 228)), none⟩, ⟨(some 230), (.mv (.t 18)), none⟩, ⟨(some 231), (.bin .add (.t 229) (.t 230)), none⟩, ⟨(some 232), (.bin .rem (.t 231) (.c (.int .i64 4294967296))), none⟩, ⟨(some 233), (.iaA 5 (.t 8) (.c (.int .i64 4))), none⟩, ⟨none, (.st (.one (.int .i64 0)) (.t 233) (.t 232)), none⟩])))))
def t_rsum_1 : ACode := (.seq (.reg (some [(0, false), (1, false), (2, false), (3, false), (4, false), (5, false), (6, false), (7, false), (8, false), (9, false), (10, false), (11, false), (12, false), (13, false), (14, true)]) [⟨(some 134), (.iaA 5 (.t 8) (.c (.int .i64 0))), none⟩, ⟨(some 135), (.ld (.one (.int .i64 0)) (.t 134)), none⟩, ⟨(some 136), (.iaA 5 (.t 8) (.c (.int .i64 1))), none⟩, ⟨(some 137), (.ld (.one (.int .i64 0)) (.t 136)), none⟩, ⟨(some 138), (.iaA 5 (.t 8) (.c (.int .i64 2))), none⟩, ⟨(some 139), (.ld (.one (.int .i64 0)) (.t 138)), none⟩, ⟨(some 140), (.iaA 5 (.t 8) (.c (.int .i64 3))), none⟩, ⟨(some 141), (.ld (.one (.int .i64 0)) (.t 140)), none⟩, ⟨(some 142), (.iaA 5 (.t 8) (.c (.int .i64 4))), none⟩, ⟨(some 143), (.ld (.one (.int .i64 0)) (.t 142)), none⟩, ⟨(some 14), (.mv (.t 135)), none⟩, ⟨(some 15), (.mv (.t 137)), none⟩, ⟨(some 16), (.mv (.t 139)), none⟩, ⟨(some 17), (.mv (.t 141)), none⟩, ⟨(some 18), (.mv (.t 143)), none⟩]) (.seq (.seq (.reg none [⟨(some 19), (.mv (.c (.int .i64 0))), none⟩]) (.block 12 (.loop b_rsum_5))) t_rsum_0))
def t_rsum_2 : ACode := (.seq (.seq (.reg none [⟨(some 13), (.mv (.c (.int .i64 16))), none⟩]) (.block 10 (.loop b_rsum_4))) t_rsum_1)
def t_rsum_3 : ACode := (.reg none [⟨(some 67), (.mv (.t 9)), none⟩, ⟨(some 68), (.bin .add (.t 67) (.c (.int .i64 64))), none⟩, ⟨(some 9), (.mv (.t 68)), none⟩])
def b_rsum_6 : ACode := (.seq (.seq (.reg none [⟨(some 63), (.mv (.t 9)), none⟩, ⟨(some 64), (.mv (.t 3)), none⟩, ⟨(some 65), (.len none false (.t 64)), none⟩, ⟨(some 66), (.bin .lss (.t 63) (.t 65)), none⟩]) (.cond (.t 66) .skip (.exit 6))) (.seq (.block 7 (.seq (.reg none [⟨(some 10), (.new 57 [(80, (.blob (List.replicate 80 (.int .i64 0))))]), none⟩]) (.seq (.seq (.reg none [⟨(some 11), (.mv (.c (.int .i64 0))), none⟩]) (.block 8 (.loop b_rsum_3))) t_rsum_2))) t_rsum_3))
def b_rsum_7 : ACode := (.seq (.seq (.reg none [⟨(some 234), (.mv (.t 24)), none⟩, ⟨(some 235), (.bin .lss (.t 234) (.c (.int .i64 5))), none⟩]) (.cond (.t 235) .skip (.exit 15))) (.seq (.block 16 (.seq (.reg none [⟨(some 238), (.mv (.t 24)), none⟩, ⟨(some 239), (.bin .mul (.c (.int .i64 4)) (.t 238)), none⟩, ⟨(some 240), (.mv (.t 24)), none⟩, ⟨(some 241), (.iaA 5 (.t 8) (.t 240)), none⟩, ⟨(some 242), (.ld (.one (.int .i64 0)) (.t 241)), none⟩, ⟨(some 243), (.bin .quo (.t 242) (.c (.int .i64 16777216))), none⟩, ⟨(some 244), (.toInt .u8 (.t 243)), none⟩, ⟨(some 245), (.iaA 20 (.t 23) (.t 239)), none⟩, ⟨none, (.st (.one (.int .u8 0)) (.t 245) (.t 244)), none⟩]) (.seq (.reg none [⟨(some 246), (.mv (.t 24)), none⟩, ⟨(some 247), (.bin .mul (.c (.int .i64 4)) (.t 246)), none⟩, ⟨(some 248), (.bin .add (.t 247) (.c (.int .i64 1))), none⟩, ⟨(some 249), (.mv (.t 24)), none⟩, ⟨(some 250), (.iaA 5 (.t 8) (.t 249)), none⟩, ⟨(some 251), (.ld (.one (.int .i64 0)) (.t 250)), none⟩, ⟨(some 252), (.bin .quo (.t 251) (.c (.int .i64 65536))), none⟩, ⟨(some 253), (.bin .rem (.t 252) (.c (.int .i64 256))), none⟩, ⟨(some 254), (.toInt .u8 (.t 253)), none⟩, ⟨(some 255), (.iaA 20 (.t 23) (.t 248)), none⟩, ⟨none, (.st (.one (.int .u8 0)) (.t 255) (.t 254)), none⟩]) (.seq (.reg none [⟨(some 256), (.mv (.t 24)), none⟩, ⟨(some 257), (.bin .mul (.c (.int .i64 4)) (.t 256)), none⟩, ⟨(some 258), (.bin .add (.t 257) (.c (.int .i64 2))), none⟩, ⟨(some 259), (.mv (.t 24)), none⟩, ⟨(some 260), (.iaA 5 (.t 8) (.t 259)), none⟩, ⟨(some 261), (.ld (.one (.int .i64 0)) (.t 260)), none⟩, ⟨(some 262), (.bin .quo (.t 261) (.c (.int .i64 256))), none⟩, ⟨(some 263), (.bin .rem (.t 262) (.c (.int .i64 256))), none⟩, ⟨(some 264), (.toInt .u8 (.t 263)), none⟩, ⟨(some 265), (.iaA 20 (.t 23) (.t 258)), none⟩, ⟨none, (.st (.one (.int .u8 0)) (.t 265) (.t 264)), none⟩]) (.reg none [⟨(some 266), (.mv (.t 24)), none⟩, ⟨(some 267), (.bin .mul (.c (.int .i64 4)) (.t 266)), none⟩, ⟨(some 268), (.bin .add (.t 267) (.c (.int .i64 3))), none⟩, ⟨(some 269), (.mv (.t 24)), none⟩, ⟨(some 270), (.iaA 5 (.t 8) (.t 269)), none⟩, ⟨(some 271), (.ld (.one (.int .i64 0)) (.t 270)), none⟩, ⟨(some 272), (.bin .rem (.t 271) (.c (.int .i64 256))), none⟩, ⟨(some 273), (.toInt .u8 (.t 272)), none⟩, ⟨(some 274), (.iaA 20 (.t 23) (.t 268)), none⟩, ⟨none, (.st (.one (.int .u8 0)) (.t 274) (.t 273)), none⟩]))))) (.reg none [⟨(some 236), (.mv (.t 24)), none⟩, ⟨(some 237), (.bin .add (.t 236) (.c (.int .i64 1))), none⟩, ⟨(some 24), (.mv (.t 237)), none⟩])))
def t_rsum_4 : ACode := (.seq (.reg none [⟨(some 275), (.ld (.arr 20) (.t 23)), none⟩, ⟨none, (.st (.arr 20) (.t 2) (.t 275)), none⟩]) .ret)
def t_rsum_5 : ACode := (.seq (.reg none [⟨(some 23), (.new 24 [(20, (.blob (List.replicate 20 (.int .u8 0))))]), none⟩]) (.seq (.seq (.reg none [⟨(some 24), (.mv (.c (.int .i64 0))), none⟩]) (.block 15 (.loop b_rsum_7))) t_rsum_4))
def t_rsum_6 : ACode := (.seq (.reg none [⟨(some 62), (.buildA (List.replicate 5 (.int .i64 0)) [(0, (.c (.int .i64 1732584193))), (1, (.c (.int .i64 4023233417))), (2, (.c (.int .i64 2562383102))), (3, (.c (.int .i64 271733878))), (4, (.c (.int .i64 3285377520)))]), none⟩, ⟨(some 8), (.new 56 [(5, (.blob (List.replicate 5 (.int .i64 0))))]), none⟩, ⟨none, (.st (.arr 5) (.t 8) (.t 62)), none⟩]) (.seq (.seq (.reg none [⟨(some 9), (.mv (.c (.int .i64 0))), none⟩]) (.block 6 (.loop b_rsum_6))) t_rsum_5))
def t_rsum_7 : ACode := (.seq (.seq (.reg none [⟨(some 7), (.mv (.c (.int .i64 0))), none⟩]) (.block 4 (.loop b_rsum_2))) t_rsum_6)
def t_rsum_8 : ACode := (.seq (.reg none [⟨(some 38), (.mv (.t 0)), none⟩, ⟨(some 39), (.len none false (.t 38)), none⟩, ⟨(some 40), (.bin .mul (.c (.int .i64 8)) (.t 39)), none⟩, ⟨(some 4), (.mv (.t 40)), none⟩]) (.seq (.reg none [⟨(some 5), (.new 55 [(8, (.blob (List.replicate 8 (.int .u8 0))))]), none⟩]) (.seq (.seq (.reg none [⟨(some 6), (.mv (.c (.int .i64 7))), none⟩]) (.block 2 (.loop b_rsum_1))) t_rsum_7)))
def c_rsum : ACode := (.seq (.reg none [⟨(some 2), (.new 24 [(20, (.blob (List.replicate 20 (.int .u8 0))))]), none⟩]) (.seq (.reg none [⟨(some 25), (.buildSl 5 1 []), none⟩, ⟨(some 26), (.mv (.t 0)), none⟩, ⟨(some 27), (.app 5 1 1 (.t 25) (.t 26)), none⟩, ⟨(some 3), (.mv (.t 27)), none⟩]) (.seq (.reg none [⟨(some 28), (.mv (.t 3)), none⟩, ⟨(some 29), (.buildSl 5 1 [(.c (.int .u8 128))]), none⟩, ⟨(some 30), (.app 5 1 1 (.t 28) (.t 29)), none⟩, ⟨(some 3), (.mv (.t 30)), none⟩]) (.seq (.block 0 (.loop b_rsum_0)) t_rsum_8))))
def r_rsum : List ARes := [(.c 2 (.arr 20))]
theorem s_rsum : slimF Try.prog Try.f10 = some (c_rsum, r_rsum) := by kernel_rfl

theorem i64_xor (a b : Nat) (ha : a < 9223372036854775808) (hb : b < 9223372036854775808) : bits .xor .i64 (a : Int) (b : Int) = ((a ^^^ b : Nat) : Int) := by
  have hx : a ^^^ b < 2 ^ 63 := Nat.xor_lt_two_pow (by omega) (by omega)
  have h1 : (BitVec.ofInt 64 (a : Int)).toNat = a := by
    rw [BitVec.ofInt_natCast, BitVec.toNat_ofNat]; exact Nat.mod_eq_of_lt (by omega)
  have h2 : (BitVec.ofInt 64 (b : Int)).toNat = b := by
    rw [BitVec.ofInt_natCast, BitVec.toNat_ofNat]; exact Nat.mod_eq_of_lt (by omega)
  show IntKind.i64.wrap ((BitVec.ofInt 64 (a : Int) ^^^ BitVec.ofInt 64 (b : Int)).toNat : Int) = _
  rw [BitVec.toNat_xor, h1, h2, IntWalk.i64_in _ (by omega)]
theorem i64_and (a b : Nat) (ha : a < 9223372036854775808) (hb : b < 9223372036854775808) : bits .and .i64 (a : Int) (b : Int) = ((a &&& b : Nat) : Int) := by
  have hx : a &&& b < 2 ^ 63 := Nat.and_lt_two_pow _ (by omega)
  have h1 : (BitVec.ofInt 64 (a : Int)).toNat = a := by
    rw [BitVec.ofInt_natCast, BitVec.toNat_ofNat]; exact Nat.mod_eq_of_lt (by omega)
  have h2 : (BitVec.ofInt 64 (b : Int)).toNat = b := by
    rw [BitVec.ofInt_natCast, BitVec.toNat_ofNat]; exact Nat.mod_eq_of_lt (by omega)
  show IntKind.i64.wrap ((BitVec.ofInt 64 (a : Int) &&& BitVec.ofInt 64 (b : Int)).toNat : Int) = _
  rw [BitVec.toNat_and, h1, h2, IntWalk.i64_in _ (by omega)]
theorem i64_or (a b : Nat) (ha : a < 9223372036854775808) (hb : b < 9223372036854775808) : bits .or .i64 (a : Int) (b : Int) = ((a ||| b : Nat) : Int) := by
  have hx : a ||| b < 2 ^ 63 := Nat.or_lt_two_pow (by omega) (by omega)
  have h1 : (BitVec.ofInt 64 (a : Int)).toNat = a := by
    rw [BitVec.ofInt_natCast, BitVec.toNat_ofNat]; exact Nat.mod_eq_of_lt (by omega)
  have h2 : (BitVec.ofInt 64 (b : Int)).toNat = b := by
    rw [BitVec.ofInt_natCast, BitVec.toNat_ofNat]; exact Nat.mod_eq_of_lt (by omega)
  show IntKind.i64.wrap ((BitVec.ofInt 64 (a : Int) ||| BitVec.ofInt 64 (b : Int)).toNat : Int) = _
  rw [BitVec.toNat_or, h1, h2, IntWalk.i64_in _ (by omega)]
theorem ext_snoc : ∀ (t : Nat) (L : List Nat), ext (t + 1) L = ext t L ++ [nextW (ext t L) (ext t L).length] := by
  intro t
  induction t with
  | zero => intro L; rw [ext_succ, ext_zero, ext_zero]
  | succ t ih => intro L; rw [ext_succ, ih (L ++ [nextW L L.length]), ← ext_succ]
theorem padZ_le (n : Nat) : padZ n < 64 := Nat.mod_lt _ (by omega)
theorem turnN_rot (x : Nat) : ∀ n, turnN (x : Int) n = (rot x n : Int)
  | 0 => by simp only [turnN, rot]
  | n + 1 => by
    simp only [turnN, turnI, rot, turnN_rot x n]
    omega
/-- The cells of the length. -/
def sizeC (N t : Nat) : List UInt8 := List.replicate (8 - t) 0 ++ (be 8 N).drop (8 - t)
theorem sizeC_len (N t : Nat) (h : t ≤ 8) : (sizeC N t).length = 8 := by simp [sizeC, be_len]; try omega
theorem sizeC_step (N t : Nat) (h : t < 8) : ((sizeC N t).map U).set (7 - t) (.int .u8 (IntKind.u8.wrap ((N / 256 ^ t % 256 : Nat) : Int))) = (sizeC N (t + 1)).map U := by
  rw [wrap8 (by omega) (by omega)]
  apply List.ext_getElem?
  intro j
  have hb := be_get 8 N (7 - t) (by omega)
  rw [show 8 - 1 - (7 - t) = t by omega] at hb
  by_cases e : 7 - t = j
  · subst e
    rw [List.getElem?_set_self (by rw [List.length_map, sizeC_len _ _ (by omega)]; omega), List.getElem?_map]
    unfold sizeC
    rw [List.getElem?_append_right (by rw [List.length_replicate]; omega), List.length_replicate, List.getElem?_drop, show 8 - (t + 1) + (7 - t - (8 - (t + 1))) = 7 - t by omega, hb]
    simp only [Option.map_some, U, byteOf]
    congr 2
    try (rw [UInt8.toNat_ofNat']; omega)
  · rw [List.getElem?_set_ne e, List.getElem?_map, List.getElem?_map]
    congr 1
    unfold sizeC
    rcases Nat.lt_or_ge j (7 - t) with h1 | h1
    · rw [List.getElem?_append_left (by simp; omega), List.getElem?_append_left (by simp; omega), List.getElem?_replicate, List.getElem?_replicate, if_pos (by omega), if_pos (by omega)]
    · rw [List.getElem?_append_right (by rw [List.length_replicate]; omega), List.getElem?_append_right (by rw [List.length_replicate]; omega), List.length_replicate, List.length_replicate, List.getElem?_drop, List.getElem?_drop]
      congr 1; all_goals omega
def i64v (n : Nat) : Value := .int .i64 (n : Int)
def hC (s : ShSt) : List Value := [i64v s.a, i64v s.b, i64v s.c, i64v s.d, i64v s.e]
def wC (L : List Nat) : List Value := L.map i64v ++ List.replicate (80 - L.length) (.int .i64 0)
theorem wC_len (L : List Nat) (h : L.length ≤ 80) : (wC L).length = 80 := by simp [wC]; omega
theorem wC_set (L : List Nat) (x : Nat) (h : L.length < 80) : (wC L).set L.length (i64v x) = wC (L ++ [x]) := by
  unfold wC
  rw [List.set_append_right _ _ (by simp), List.length_map, Nat.sub_self, show 80 - L.length = (80 - (L.length + 1)) + 1 by omega, List.replicate_succ]
  simp
theorem wC_get (L : List Nat) (j : Nat) : (wC L).getD j (.int .i64 0) = .int .i64 ((L.getD j 0 : Nat) : Int) := by
  unfold wC
  simp only [List.getD_eq_getElem?_getD]
  rcases Nat.lt_or_ge j L.length with h | h
  · rw [List.getElem?_append_left (by simpa using h), List.getElem?_map, List.getElem?_eq_getElem h]; rfl
  · rw [List.getElem?_append_right (by simpa using h), List.getElem?_replicate, List.getElem?_eq_none h]
    split <;> rfl
theorem chunk_get (p : List UInt8) (n j : Nat) (h : j < 64) : (chunk p n).getD j 0 = p.getD (64 * n + j) 0 := by
  unfold chunk
  rw [List.getD_eq_getElem?_getD, List.getElem?_take, if_pos h, List.getElem?_drop, List.getD_eq_getElem?_getD]
theorem word_chunk (p : List UInt8) (n i : Nat) (h : i < 16) : word (chunk p n) i = (p.getD (64 * n + 4 * i) 0).toNat * 16777216 + (p.getD (64 * n + 4 * i + 1) 0).toNat * 65536 + (p.getD (64 * n + 4 * i + 2) 0).toNat * 256 + (p.getD (64 * n + 4 * i + 3) 0).toNat := by
  unfold word
  rw [chunk_get _ _ _ (by omega), chunk_get _ _ _ (by omega), chunk_get _ _ _ (by omega), chunk_get _ _ _ (by omega)]
  simp only [Nat.add_assoc]
abbrev phiT : Phi := phiL [(20, [], turnS)]
theorem phiT_at : phiT 20 = some ([], turnS) := rfl
/-- The state at the head of the rounds' loop. -/
def stR (p : List UInt8) (v n : Nat) (h : ShSt) (L : List Nat) (i : Nat) (s : ShSt) : St :=
  ⟨[(2, .ref 0 0 0), (3, .own 1 v), (8, .ref 2 0 0), (9, .int .i64 ((64 * n : Nat) : Int)), (10, .ref 3 0 0), (14, .int .i64 (s.a : Int)), (15, .int .i64 (s.b : Int)), (16, .int .i64 (s.c : Int)), (17, .int .i64 (s.d : Int)), (18, .int .i64 (s.e : Int)), (19, .int .i64 (i : Int))],
    [.cells 24 [(20, .blob (List.replicate 20 (.int .u8 0)))], .row 5 1 v (Bs p), .cells 56 [(5, .blob (hC h))], .cells 57 [(80, .blob (wC L))]]⟩
theorem rsum_rnd (p : List UInt8) (v n : Nat) (h : ShSt) (L : List Nat) (i : Nat) (s : ShSt) (K : St → Prop) (Q : Exit → St → Prop) (hi : i < 80) (hs : s.ok) (hl : L.length = 80) (hL : allLt L)
    (hK : ∀ s', kp [2, 3, 8, 9, 10, 14, 15, 16, 17, 18, 19] 4 s' = some (stR p v n h L (i + 1) (rnd i (L.getD i 0) s)) → K s') : awp phiT 0 b_rsum_5 (thenQ K Q) (stR p v n h L i s) := by
  obtain ⟨a, b, c, d, e⟩ := s
  obtain ⟨h1, h2, h3, h4, h5⟩ := hs
  simp only at h1 h2 h3 h4 h5
  have hx := hL.getD i
  have r1 := rot_lt a h1 5
  have r2 := rot_lt b h2 30
  have hF := stepF_lt i b c d h2 h3 h4
  have hKc := stepK_lt i
  have hwl : (wC L).length = 80 := wC_len _ (by omega)
  have hq : ((i : Int).tdiv 20) = ((i / 20 : Nat) : Int) := by rw [Int.tdiv_eq_ediv_of_nonneg (by omega)]; omega
  simp only [b_rsum_5, stR, phiT_at, turnS, wC_get, hwl, hq, awp_skip, awp_reg, awp_draw, awp_seq, awp_cond, awp_block, awp_loop, awp_exit, awp_ret, arun_nil, arun_op, arun_gd, arunD_nil, arunD_op, arunD_gd, aq_some, gdQ_b, condQ_b, thenQ_n, thenQ_x, thenQ_r, inQ_n, inQ_r, inQ_x, retQ_n, retQ_r, exD, AOp.isH, preB, astep, stV, stN, stE, stC, aval, anew, aElems, frzS, frzH, aeff, slots, aret, ares, aress, AV.isTup, ofC_i, ofC_b, ofC_s, ofC_U, getD_mapU, getD_Bs, Bs_len, Int.toNat_natCast, opd, pt, tk, subp, rdP, Rt.size, Rt.isAgg, Rt.zv, aBin, aInt, aStr, arI, aUn, aToInt, aToStr, aIdxS, zv, aIdxA, aIa, aIaA, aFa, aLd, aFld, pparts, aLo, aHi, cutL, aSlS, aSl, aExt, aNck, AV.isStr, aLen, AV.one, AV.multi, pureB, szOk, psz, drp, spl, aEqB, aEqA, aMm, aMkfn, aMkif, aBuild, toV, aBuildA, wrP, unparts, view, nilS, St.ev, lk, St.put, St.pin, acall0, acall1, acall2, acall3, bor, bor0, bor1, phiL_nil, phiL_at, tau, lentO, okIds, flatC, flatB, flatOs, flatO, place, setAll_nil, setAll_cons, nodupB, renObj, closeIds, addNew, idsOf, idsObj, posOf, reduceIte, Option.isSome_none, Option.isSome_some, Bool.or_true, Bool.true_or,  Nat.reduceEqDiff, Nat.reduceBEq, Nat.reduceSub, Nat.reduceLT, beq_self_eq_true, List.map, List.set, List.map_cons, List.map_nil, List.flatMap_cons, List.flatMap_nil, List.flatten_cons, List.flatten_nil, true_and, and_true, List.length_cons, List.length_nil, Nat.reduceAdd, Nat.reduceLeDiff, List.nil_append, List.cons_append, List.append_nil, Option.map, mapO, ren, kp, kpI, ent, nilG, Option.bind, List.range, List.range.loop, List.getElem?_cons_zero, List.getElem?_cons_succ, List.getElem?_nil, List.getD_cons_zero, List.getD_cons_succ, List.drop_zero, List.drop_succ_cons, List.drop_nil, List.take_zero, List.take_succ_cons, List.all_cons, List.all_nil, List.isEmpty_nil, List.isEmpty_cons, Bool.and_true, Bool.true_and, Bool.not_true, Bool.not_false, List.contains_nil, reduceCtorEq, List.contains_cons, Bool.or_false, Bool.false_or, eq_self, forall_const, false_implies, Bool.false_eq_true, Nat.le_refl, List.length_map, List.length_set, List.length_replicate, and_self, implies_true]
  have n1 : (4294967295 : Int) - (b : Int) = ((4294967295 - b : Nat) : Int) := by omega
  have m1 : b &&& c < 4294967296 := Nat.and_lt_two_pow (n := 32) _ h3
  have m2 : (4294967295 - b) &&& d < 4294967296 := Nat.and_lt_two_pow (n := 32) _ h4
  have m3 : b ^^^ c < 4294967296 := Nat.xor_lt_two_pow (n := 32) h2 h3
  have m4 : b &&& d < 4294967296 := Nat.and_lt_two_pow (n := 32) _ h4
  have m5 : c &&& d < 4294967296 := Nat.and_lt_two_pow (n := 32) _ h4
  have m6 : b &&& c ||| b &&& d < 4294967296 := Nat.or_lt_two_pow (n := 32) m1 m4
  rw [n1, i64_and _ _ (by omega) (by omega), i64_and _ _ (by omega) (by omega), i64_or _ _ (by omega) (by omega), i64_xor _ _ (by omega) (by omega), i64_xor _ _ (by omega) (by omega), i64_and _ _ (by omega) (by omega), i64_and _ _ (by omega) (by omega), i64_or _ _ (by omega) (by omega), i64_or _ _ (by omega) (by omega)]
  rw [show (5 : Int).toNat = 5 from rfl, show (30 : Int).toNat = 30 from rfl, turnN_rot, turnN_rot]
  refine ⟨fun _ => ⟨by constructor <;> (try simp only [inI]) <;> omega, ?_, ?_⟩, fun hf => absurd (of_decide_eq_false hf) (by omega)⟩
  · intro hc
    have hc := of_decide_eq_true hc
    have hi20 : i < 20 := by omega
    have e1 : stepF i b c d = (b &&& c) ||| ((4294967295 - b) &&& d) := by unfold stepF; rw [if_pos hi20]
    have e2 : stepK i = 1518500249 := by unfold stepK; rw [if_pos hi20]
    obtain ⟨F, hFe⟩ : ∃ F, F = stepF i b c d := ⟨_, rfl⟩
    rw [← e1, ← hFe]
    rw [← hFe] at hF
    repeat' apply And.intro
    any_goals omega
    refine hK _ ?_
    rw [Int.tmod_eq_emod_of_nonneg (by omega)]
    have hcast : ((rot a 5 : Int) + (F : Int) + (e : Int) + 1518500249 + ((L.getD i 0 : Nat) : Int)) % 4294967296 = (((rot a 5 + F + e + 1518500249 + L.getD i 0) % 4294967296 : Nat) : Int) := by omega
    rw [hcast]
    simp only [stR, rnd, awp_skip, awp_reg, awp_draw, awp_seq, awp_cond, awp_block, awp_loop, awp_exit, awp_ret, arun_nil, arun_op, arun_gd, arunD_nil, arunD_op, arunD_gd, aq_some, gdQ_b, condQ_b, thenQ_n, thenQ_x, thenQ_r, inQ_n, inQ_r, inQ_x, retQ_n, retQ_r, exD, AOp.isH, preB, astep, stV, stN, stE, stC, aval, anew, aElems, frzS, frzH, aeff, slots, aret, ares, aress, AV.isTup, ofC_i, ofC_b, ofC_s, ofC_U, getD_mapU, getD_Bs, Bs_len, Int.toNat_natCast, opd, pt, tk, subp, rdP, Rt.size, Rt.isAgg, Rt.zv, aBin, aInt, aStr, arI, aUn, aToInt, aToStr, aIdxS, zv, aIdxA, aIa, aIaA, aFa, aLd, aFld, pparts, aLo, aHi, cutL, aSlS, aSl, aExt, aNck, AV.isStr, aLen, AV.one, AV.multi, pureB, szOk, psz, drp, spl, aEqB, aEqA, aMm, aMkfn, aMkif, aBuild, toV, aBuildA, wrP, unparts, view, nilS, St.ev, lk, St.put, St.pin, acall0, acall1, acall2, acall3, bor, bor0, bor1, phiL_nil, phiL_at, tau, lentO, okIds, flatC, flatB, flatOs, flatO, place, setAll_nil, setAll_cons, nodupB, renObj, closeIds, addNew, idsOf, idsObj, posOf, reduceIte, Option.isSome_none, Option.isSome_some, Bool.or_true, Bool.true_or,  Nat.reduceEqDiff, Nat.reduceBEq, Nat.reduceSub, Nat.reduceLT, beq_self_eq_true, List.map, List.set, List.map_cons, List.map_nil, List.flatMap_cons, List.flatMap_nil, List.flatten_cons, List.flatten_nil, true_and, and_true, List.length_cons, List.length_nil, Nat.reduceAdd, Nat.reduceLeDiff, List.nil_append, List.cons_append, List.append_nil, Option.map, mapO, ren, kp, kpI, ent, nilG, Option.bind, List.range, List.range.loop, List.getElem?_cons_zero, List.getElem?_cons_succ, List.getElem?_nil, List.getD_cons_zero, List.getD_cons_succ, List.drop_zero, List.drop_succ_cons, List.drop_nil, List.take_zero, List.take_succ_cons, List.all_cons, List.all_nil, List.isEmpty_nil, List.isEmpty_cons, Bool.and_true, Bool.true_and, Bool.not_true, Bool.not_false, List.contains_nil, reduceCtorEq, List.contains_cons, Bool.or_false, Bool.false_or, eq_self, forall_const, false_implies, Bool.false_eq_true, Nat.le_refl, List.length_map, List.length_set, List.length_replicate, and_self, implies_true]
    rw [← hFe, e2]
    rfl
  · intro hc
    have hc := of_decide_eq_false hc
    refine ⟨fun hd => ?_, fun hd => ⟨fun he => ?_, fun he => ?_⟩⟩
    · have hd := of_decide_eq_true hd
      have e1 : stepF i b c d = b ^^^ c ^^^ d := by unfold stepF; rw [if_neg (by omega), if_pos (by omega)]
      have e2 : stepK i = 1859775393 := by unfold stepK; rw [if_neg (by omega), if_pos (by omega)]
      obtain ⟨F, hFe⟩ : ∃ F, F = stepF i b c d := ⟨_, rfl⟩
      rw [← e1, ← hFe]
      rw [← hFe] at hF
      repeat' apply And.intro
      any_goals omega
      refine hK _ ?_
      rw [Int.tmod_eq_emod_of_nonneg (by omega)]
      have hcast : ((rot a 5 : Int) + (F : Int) + (e : Int) + 1859775393 + ((L.getD i 0 : Nat) : Int)) % 4294967296 = (((rot a 5 + F + e + 1859775393 + L.getD i 0) % 4294967296 : Nat) : Int) := by omega
      rw [hcast]
      simp only [stR, rnd, awp_skip, awp_reg, awp_draw, awp_seq, awp_cond, awp_block, awp_loop, awp_exit, awp_ret, arun_nil, arun_op, arun_gd, arunD_nil, arunD_op, arunD_gd, aq_some, gdQ_b, condQ_b, thenQ_n, thenQ_x, thenQ_r, inQ_n, inQ_r, inQ_x, retQ_n, retQ_r, exD, AOp.isH, preB, astep, stV, stN, stE, stC, aval, anew, aElems, frzS, frzH, aeff, slots, aret, ares, aress, AV.isTup, ofC_i, ofC_b, ofC_s, ofC_U, getD_mapU, getD_Bs, Bs_len, Int.toNat_natCast, opd, pt, tk, subp, rdP, Rt.size, Rt.isAgg, Rt.zv, aBin, aInt, aStr, arI, aUn, aToInt, aToStr, aIdxS, zv, aIdxA, aIa, aIaA, aFa, aLd, aFld, pparts, aLo, aHi, cutL, aSlS, aSl, aExt, aNck, AV.isStr, aLen, AV.one, AV.multi, pureB, szOk, psz, drp, spl, aEqB, aEqA, aMm, aMkfn, aMkif, aBuild, toV, aBuildA, wrP, unparts, view, nilS, St.ev, lk, St.put, St.pin, acall0, acall1, acall2, acall3, bor, bor0, bor1, phiL_nil, phiL_at, tau, lentO, okIds, flatC, flatB, flatOs, flatO, place, setAll_nil, setAll_cons, nodupB, renObj, closeIds, addNew, idsOf, idsObj, posOf, reduceIte, Option.isSome_none, Option.isSome_some, Bool.or_true, Bool.true_or,  Nat.reduceEqDiff, Nat.reduceBEq, Nat.reduceSub, Nat.reduceLT, beq_self_eq_true, List.map, List.set, List.map_cons, List.map_nil, List.flatMap_cons, List.flatMap_nil, List.flatten_cons, List.flatten_nil, true_and, and_true, List.length_cons, List.length_nil, Nat.reduceAdd, Nat.reduceLeDiff, List.nil_append, List.cons_append, List.append_nil, Option.map, mapO, ren, kp, kpI, ent, nilG, Option.bind, List.range, List.range.loop, List.getElem?_cons_zero, List.getElem?_cons_succ, List.getElem?_nil, List.getD_cons_zero, List.getD_cons_succ, List.drop_zero, List.drop_succ_cons, List.drop_nil, List.take_zero, List.take_succ_cons, List.all_cons, List.all_nil, List.isEmpty_nil, List.isEmpty_cons, Bool.and_true, Bool.true_and, Bool.not_true, Bool.not_false, List.contains_nil, reduceCtorEq, List.contains_cons, Bool.or_false, Bool.false_or, eq_self, forall_const, false_implies, Bool.false_eq_true, Nat.le_refl, List.length_map, List.length_set, List.length_replicate, and_self, implies_true]
      rw [← hFe, e2]
      rfl
    · have hd := of_decide_eq_false hd
      have he := of_decide_eq_true he
      have e1 : stepF i b c d = (b &&& c) ||| (b &&& d) ||| (c &&& d) := by unfold stepF; rw [if_neg (by omega), if_neg (by omega), if_pos (by omega)]
      have e2 : stepK i = 2400959708 := by unfold stepK; rw [if_neg (by omega), if_neg (by omega), if_pos (by omega)]
      obtain ⟨F, hFe⟩ : ∃ F, F = stepF i b c d := ⟨_, rfl⟩
      rw [← e1, ← hFe]
      rw [← hFe] at hF
      repeat' apply And.intro
      any_goals omega
      refine hK _ ?_
      rw [Int.tmod_eq_emod_of_nonneg (by omega)]
      have hcast : ((rot a 5 : Int) + (F : Int) + (e : Int) + 2400959708 + ((L.getD i 0 : Nat) : Int)) % 4294967296 = (((rot a 5 + F + e + 2400959708 + L.getD i 0) % 4294967296 : Nat) : Int) := by omega
      rw [hcast]
      simp only [stR, rnd, awp_skip, awp_reg, awp_draw, awp_seq, awp_cond, awp_block, awp_loop, awp_exit, awp_ret, arun_nil, arun_op, arun_gd, arunD_nil, arunD_op, arunD_gd, aq_some, gdQ_b, condQ_b, thenQ_n, thenQ_x, thenQ_r, inQ_n, inQ_r, inQ_x, retQ_n, retQ_r, exD, AOp.isH, preB, astep, stV, stN, stE, stC, aval, anew, aElems, frzS, frzH, aeff, slots, aret, ares, aress, AV.isTup, ofC_i, ofC_b, ofC_s, ofC_U, getD_mapU, getD_Bs, Bs_len, Int.toNat_natCast, opd, pt, tk, subp, rdP, Rt.size, Rt.isAgg, Rt.zv, aBin, aInt, aStr, arI, aUn, aToInt, aToStr, aIdxS, zv, aIdxA, aIa, aIaA, aFa, aLd, aFld, pparts, aLo, aHi, cutL, aSlS, aSl, aExt, aNck, AV.isStr, aLen, AV.one, AV.multi, pureB, szOk, psz, drp, spl, aEqB, aEqA, aMm, aMkfn, aMkif, aBuild, toV, aBuildA, wrP, unparts, view, nilS, St.ev, lk, St.put, St.pin, acall0, acall1, acall2, acall3, bor, bor0, bor1, phiL_nil, phiL_at, tau, lentO, okIds, flatC, flatB, flatOs, flatO, place, setAll_nil, setAll_cons, nodupB, renObj, closeIds, addNew, idsOf, idsObj, posOf, reduceIte, Option.isSome_none, Option.isSome_some, Bool.or_true, Bool.true_or,  Nat.reduceEqDiff, Nat.reduceBEq, Nat.reduceSub, Nat.reduceLT, beq_self_eq_true, List.map, List.set, List.map_cons, List.map_nil, List.flatMap_cons, List.flatMap_nil, List.flatten_cons, List.flatten_nil, true_and, and_true, List.length_cons, List.length_nil, Nat.reduceAdd, Nat.reduceLeDiff, List.nil_append, List.cons_append, List.append_nil, Option.map, mapO, ren, kp, kpI, ent, nilG, Option.bind, List.range, List.range.loop, List.getElem?_cons_zero, List.getElem?_cons_succ, List.getElem?_nil, List.getD_cons_zero, List.getD_cons_succ, List.drop_zero, List.drop_succ_cons, List.drop_nil, List.take_zero, List.take_succ_cons, List.all_cons, List.all_nil, List.isEmpty_nil, List.isEmpty_cons, Bool.and_true, Bool.true_and, Bool.not_true, Bool.not_false, List.contains_nil, reduceCtorEq, List.contains_cons, Bool.or_false, Bool.false_or, eq_self, forall_const, false_implies, Bool.false_eq_true, Nat.le_refl, List.length_map, List.length_set, List.length_replicate, and_self, implies_true]
      rw [← hFe, e2]
      rfl
    · have hd := of_decide_eq_false hd
      have he := of_decide_eq_false he
      have e1 : stepF i b c d = b ^^^ c ^^^ d := by unfold stepF; rw [if_neg (by omega), if_neg (by omega), if_neg (by omega)]
      have e2 : stepK i = 3395469782 := by unfold stepK; rw [if_neg (by omega), if_neg (by omega), if_neg (by omega)]
      obtain ⟨F, hFe⟩ : ∃ F, F = stepF i b c d := ⟨_, rfl⟩
      rw [← e1, ← hFe]
      rw [← hFe] at hF
      repeat' apply And.intro
      any_goals omega
      refine hK _ ?_
      rw [Int.tmod_eq_emod_of_nonneg (by omega)]
      have hcast : ((rot a 5 : Int) + (F : Int) + (e : Int) + 3395469782 + ((L.getD i 0 : Nat) : Int)) % 4294967296 = (((rot a 5 + F + e + 3395469782 + L.getD i 0) % 4294967296 : Nat) : Int) := by omega
      rw [hcast]
      simp only [stR, rnd, awp_skip, awp_reg, awp_draw, awp_seq, awp_cond, awp_block, awp_loop, awp_exit, awp_ret, arun_nil, arun_op, arun_gd, arunD_nil, arunD_op, arunD_gd, aq_some, gdQ_b, condQ_b, thenQ_n, thenQ_x, thenQ_r, inQ_n, inQ_r, inQ_x, retQ_n, retQ_r, exD, AOp.isH, preB, astep, stV, stN, stE, stC, aval, anew, aElems, frzS, frzH, aeff, slots, aret, ares, aress, AV.isTup, ofC_i, ofC_b, ofC_s, ofC_U, getD_mapU, getD_Bs, Bs_len, Int.toNat_natCast, opd, pt, tk, subp, rdP, Rt.size, Rt.isAgg, Rt.zv, aBin, aInt, aStr, arI, aUn, aToInt, aToStr, aIdxS, zv, aIdxA, aIa, aIaA, aFa, aLd, aFld, pparts, aLo, aHi, cutL, aSlS, aSl, aExt, aNck, AV.isStr, aLen, AV.one, AV.multi, pureB, szOk, psz, drp, spl, aEqB, aEqA, aMm, aMkfn, aMkif, aBuild, toV, aBuildA, wrP, unparts, view, nilS, St.ev, lk, St.put, St.pin, acall0, acall1, acall2, acall3, bor, bor0, bor1, phiL_nil, phiL_at, tau, lentO, okIds, flatC, flatB, flatOs, flatO, place, setAll_nil, setAll_cons, nodupB, renObj, closeIds, addNew, idsOf, idsObj, posOf, reduceIte, Option.isSome_none, Option.isSome_some, Bool.or_true, Bool.true_or,  Nat.reduceEqDiff, Nat.reduceBEq, Nat.reduceSub, Nat.reduceLT, beq_self_eq_true, List.map, List.set, List.map_cons, List.map_nil, List.flatMap_cons, List.flatMap_nil, List.flatten_cons, List.flatten_nil, true_and, and_true, List.length_cons, List.length_nil, Nat.reduceAdd, Nat.reduceLeDiff, List.nil_append, List.cons_append, List.append_nil, Option.map, mapO, ren, kp, kpI, ent, nilG, Option.bind, List.range, List.range.loop, List.getElem?_cons_zero, List.getElem?_cons_succ, List.getElem?_nil, List.getD_cons_zero, List.getD_cons_succ, List.drop_zero, List.drop_succ_cons, List.drop_nil, List.take_zero, List.take_succ_cons, List.all_cons, List.all_nil, List.isEmpty_nil, List.isEmpty_cons, Bool.and_true, Bool.true_and, Bool.not_true, Bool.not_false, List.contains_nil, reduceCtorEq, List.contains_cons, Bool.or_false, Bool.false_or, eq_self, forall_const, false_implies, Bool.false_eq_true, Nat.le_refl, List.length_map, List.length_set, List.length_replicate, and_self, implies_true]
      rw [← hFe, e2]
      rfl
end Go.Proofs.Ytbefhofmbiedgaa
