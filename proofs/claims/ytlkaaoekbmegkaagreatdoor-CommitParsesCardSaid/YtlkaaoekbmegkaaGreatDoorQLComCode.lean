import Derived.Test.YtlkaaoekbmegkaaGreatDoorChecked
import Derived.Test.YtlkaaoekbmegkaaGreatDoorQAMS
import Derived.Test.YtlkaaoekbmegkaaGreatDoorQHex
import Derived.Test.YtlkaaoekbmegkaaGreatDoorQFRCom5
import Derived.Test.YtlkaaoekbmegkaaGreatDoorQFRCom4
namespace Go.Proofs.YtlkaaoekbmegkaaGreatDoor
set_option linter.all false
open Go.RowKit
def b_lof_0 : ACode := (.seq (.seq (.reg none [⟨(some 17), (.mv (.t 4)), none⟩, ⟨(some 18), (.fa 20 (.t 1)), none⟩, ⟨(some 19), (.ld (.one (.con (.slice none 0 0))) (.t 18)), none⟩, ⟨(some 20), (.len none false (.t 19)), none⟩, ⟨(some 21), (.bin .lss (.t 17) (.t 20)), none⟩]) (.cond (.t 21) .skip (.exit 0))) (.seq (.block 1 (.reg (some [(0, false), (1, false), (2, false), (3, false), (4, false), (5, false), (6, false), (7, false), (8, true), (9, true), (10, true)]) [⟨(some 24), (.fa 20 (.t 3)), none⟩, ⟨(some 25), (.ld (.one (.con (.slice none 0 0))) (.t 24)), none⟩, ⟨(some 26), (.fa 20 (.t 1)), none⟩, ⟨(some 27), (.ld (.one (.con (.slice none 0 0))) (.t 26)), none⟩, ⟨(some 28), (.mv (.t 4)), none⟩, ⟨(some 29), (.ia 20 (.blob (List.replicate 20 (.int .u8 0))) (.t 27) (.t 28)), none⟩, ⟨(some 30), (.ld (.arr 20) (.t 29)), none⟩, ⟨(some 31), (.buildSl 22 20 [(.t 30)]), none⟩, ⟨(some 32), (.app 22 20 20 (.t 25) (.t 31)), none⟩, ⟨(some 33), (.fa 20 (.t 3)), none⟩, ⟨none, (.st (.one (.con (.slice none 0 0))) (.t 33) (.t 32)), none⟩])) (.reg none [⟨(some 22), (.mv (.t 4)), none⟩, ⟨(some 23), (.bin .add (.t 22) (.c (.int .i64 1))), none⟩, ⟨(some 4), (.mv (.t 23)), none⟩])))
def b_lof_1 : ACode := (.seq (.seq (.reg none [⟨(some 34), (.mv (.t 5)), none⟩, ⟨(some 35), (.fa 29 (.t 1)), none⟩, ⟨(some 36), (.ld (.one (.con (.slice none 0 0))) (.t 35)), none⟩, ⟨(some 37), (.len none false (.t 36)), none⟩, ⟨(some 38), (.bin .lss (.t 34) (.t 37)), none⟩]) (.cond (.t 38) .skip (.exit 2))) (.seq (.block 3 (.reg (some [(0, false), (1, false), (2, false), (3, false), (4, false), (5, false), (6, false), (7, false), (8, false), (9, false), (10, false), (11, false), (12, false), (13, false), (14, false), (15, false), (16, true), (17, true), (18, true)]) [⟨(some 41), (.fa 29 (.t 3)), none⟩, ⟨(some 42), (.ld (.one (.con (.slice none 0 0))) (.t 41)), none⟩, ⟨(some 43), (.fa 29 (.t 1)), none⟩, ⟨(some 44), (.ld (.one (.con (.slice none 0 0))) (.t 43)), none⟩, ⟨(some 45), (.mv (.t 5)), none⟩, ⟨(some 46), (.ia 2 (.agg [(1, (.str [])), (1, (.str []))]) (.t 44) (.t 45)), none⟩, ⟨(some 47), (.fa 0 (.t 46)), none⟩, ⟨(some 48), (.ld (.one (.str [])) (.t 47)), none⟩, ⟨(some 49), (.fa 29 (.t 1)), none⟩, ⟨(some 50), (.ld (.one (.con (.slice none 0 0))) (.t 49)), none⟩, ⟨(some 51), (.mv (.t 5)), none⟩, ⟨(some 52), (.ia 2 (.agg [(1, (.str [])), (1, (.str []))]) (.t 50) (.t 51)), none⟩, ⟨(some 53), (.fa 1 (.t 52)), none⟩, ⟨(some 54), (.ld (.one (.str [])) (.t 53)), none⟩, ⟨(some 55), (.build [(1, (.str [])), (1, (.str []))] [(0, (1, (.t 48))), (1, (1, (.t 54)))]), none⟩, ⟨(some 56), (.buildSl 74 2 [(.t 55)]), none⟩, ⟨(some 57), (.app 74 2 32 (.t 42) (.t 56)), none⟩, ⟨(some 58), (.fa 29 (.t 3)), none⟩, ⟨none, (.st (.one (.con (.slice none 0 0))) (.t 58) (.t 57)), none⟩])) (.reg none [⟨(some 39), (.mv (.t 5)), none⟩, ⟨(some 40), (.bin .add (.t 39) (.c (.int .i64 1))), none⟩, ⟨(some 5), (.mv (.t 40)), none⟩])))
def t_lof_0 : ACode := (.seq (.reg none [⟨(some 59), (.ld (.st 31) (.t 3)), none⟩, ⟨none, (.st (.st 31) (.t 2) (.t 59)), none⟩]) .ret)
def t_lof_1 : ACode := (.seq (.seq (.reg none [⟨(some 5), (.mv (.c (.int .i64 0))), none⟩]) (.block 2 (.loop b_lof_1))) t_lof_0)
def c_lof : ACode := (.seq (.reg none [⟨(some 1), (.box 34 31 (.t 0)), none⟩, ⟨(some 2), (.new 28 [(20, (.blob (List.replicate 20 (.int .u8 0)))), (1, (.con (.slice none 0 0))), (1, (.str [])), (1, (.str [])), (1, (.int .i64 0)), (1, (.str [])), (1, (.str [])), (1, (.str [])), (1, (.int .i64 0)), (1, (.str [])), (1, (.con (.slice none 0 0))), (1, (.str []))]), none⟩]) (.seq (.reg (some [(0, false), (1, false), (2, false), (3, false), (4, false), (5, false), (6, false), (7, false), (8, false), (9, false), (10, false), (11, false), (12, true)]) [⟨(some 6), (.fa 0 (.t 1)), none⟩, ⟨(some 7), (.ld (.arr 20) (.t 6)), none⟩, ⟨(some 8), (.fa 21 (.t 1)), none⟩, ⟨(some 9), (.ld (.st 4) (.t 8)), none⟩, ⟨(some 10), (.callP 17 [(.t 9)]), none⟩, ⟨(some 11), (.fa 25 (.t 1)), none⟩, ⟨(some 12), (.ld (.st 4) (.t 11)), none⟩, ⟨(some 13), (.callP 17 [(.t 12)]), none⟩, ⟨(some 14), (.fa 30 (.t 1)), none⟩, ⟨(some 15), (.ld (.one (.str [])) (.t 14)), none⟩, ⟨(some 16), (.build [(20, (.blob (List.replicate 20 (.int .u8 0)))), (1, (.con (.slice none 0 0))), (1, (.str [])), (1, (.str [])), (1, (.int .i64 0)), (1, (.str [])), (1, (.str [])), (1, (.str [])), (1, (.int .i64 0)), (1, (.str [])), (1, (.con (.slice none 0 0))), (1, (.str []))] [(0, (20, (.t 7))), (21, (4, (.t 10))), (25, (4, (.t 13))), (30, (1, (.t 15)))]), none⟩, ⟨(some 3), (.new 28 [(20, (.blob (List.replicate 20 (.int .u8 0)))), (1, (.con (.slice none 0 0))), (1, (.str [])), (1, (.str [])), (1, (.int .i64 0)), (1, (.str [])), (1, (.str [])), (1, (.str [])), (1, (.int .i64 0)), (1, (.str [])), (1, (.con (.slice none 0 0))), (1, (.str []))]), none⟩, ⟨none, (.st (.st 31) (.t 3) (.t 16)), none⟩]) (.seq (.seq (.reg none [⟨(some 4), (.mv (.c (.int .i64 0))), none⟩]) (.block 0 (.loop b_lof_0))) t_lof_1)))
def r_lof : List ARes := [(.c 2 (.st 31))]
theorem s_lof : slimF Tryz.prog Tryz.f8 = some (c_lof, r_lof) := by kernel_rfl
def c_lwhoOf : ACode := (.seq (.reg none [⟨(some 1), (.box 31 4 (.t 0)), none⟩, ⟨(some 2), (.new 25 [(1, (.str [])), (1, (.str [])), (1, (.int .i64 0)), (1, (.str []))]), none⟩]) (.seq (.reg none [⟨(some 3), (.fa 0 (.t 1)), none⟩, ⟨(some 4), (.ld (.one (.str [])) (.t 3)), none⟩, ⟨(some 5), (.fa 1 (.t 1)), none⟩, ⟨(some 6), (.ld (.one (.str [])) (.t 5)), none⟩, ⟨(some 7), (.fa 2 (.t 1)), none⟩, ⟨(some 8), (.ld (.one (.int .i64 0)) (.t 7)), none⟩, ⟨(some 9), (.fa 3 (.t 1)), none⟩, ⟨(some 10), (.ld (.one (.str [])) (.t 9)), none⟩, ⟨(some 11), (.build [(1, (.str [])), (1, (.str [])), (1, (.int .i64 0)), (1, (.str []))] [(0, (1, (.t 4))), (1, (1, (.t 6))), (2, (1, (.t 8))), (3, (1, (.t 10)))]), none⟩, ⟨none, (.st (.st 4) (.t 2) (.t 11)), none⟩]) .ret))
def r_lwhoOf : List ARes := [(.c 2 (.st 4))]
theorem s_lwhoOf : slimF Tryz.prog Tryz.f17 = some (c_lwhoOf, r_lwhoOf) := by kernel_rfl
def c_lofTag : ACode := (.seq (.reg none [⟨(some 1), (.box 60 27 (.t 0)), none⟩, ⟨(some 2), (.new 64 [(20, (.blob (List.replicate 20 (.int .u8 0)))), (1, (.int .i64 0)), (1, (.str [])), (1, (.str [])), (1, (.str [])), (1, (.int .i64 0)), (1, (.str [])), (1, (.str []))]), none⟩]) (.seq (.reg (some [(0, false), (1, false), (2, false), (3, false), (4, false), (5, false), (6, false), (7, false), (8, false), (8, false), (8, false), (11, true), (12, true)]) [⟨(some 3), (.fa 0 (.t 1)), none⟩, ⟨(some 4), (.ld (.arr 20) (.t 3)), none⟩, ⟨(some 5), (.fa 20 (.t 1)), none⟩, ⟨(some 6), (.ld (.one (.int .i64 0)) (.t 5)), none⟩, ⟨(some 7), (.fa 21 (.t 1)), none⟩, ⟨(some 8), (.ld (.one (.str [])) (.t 7)), none⟩, ⟨(some 9), (.fa 22 (.t 1)), none⟩, ⟨(some 10), (.ld (.st 4) (.t 9)), none⟩, ⟨(some 11), (.call 17 [(.t 10)]), none⟩, ⟨(some 12), (.fa 26 (.t 1)), none⟩, ⟨(some 13), (.ld (.one (.str [])) (.t 12)), none⟩, ⟨(some 14), (.build [(20, (.blob (List.replicate 20 (.int .u8 0)))), (1, (.int .i64 0)), (1, (.str [])), (1, (.str [])), (1, (.str [])), (1, (.int .i64 0)), (1, (.str [])), (1, (.str []))] [(0, (20, (.t 4))), (20, (1, (.t 6))), (21, (1, (.t 8))), (22, (4, (.t 11))), (26, (1, (.t 13)))]), none⟩, ⟨none, (.st (.st 27) (.t 2) (.t 14)), none⟩]) .ret))
def r_lofTag : List ARes := [(.c 2 (.st 27))]
theorem s_lofTag : slimF Tryz.prog Tryz.f25 = some (c_lofTag, r_lofTag) := by kernel_rfl
def c_known11 : ACode := (.seq (.reg none [⟨(some 0), (.mv (.c (.bool false))), none⟩]) (.seq (.reg none [⟨(some 8), (.call 19 [(.c (.str [65, 32, 60, 97, 64, 98, 62, 32, 49, 50, 32, 43, 48, 48, 48, 48]))]), none⟩, ⟨(some 7), (.mv (.t 8)), none⟩, ⟨(some 9), (.ext (.t 7) 0), none⟩, ⟨(some 10), (.ext (.t 7) 1), none⟩, ⟨(some 1), (.new 31 [(1, (.str [])), (1, (.str [])), (1, (.int .i64 0)), (1, (.str []))]), none⟩, ⟨none, (.st (.st 4) (.t 1) (.t 9)), none⟩, ⟨(some 2), (.mv (.t 10)), none⟩]) (.seq (.reg none [⟨(some 12), (.ld (.st 4) (.t 1)), none⟩, ⟨(some 13), (.ld (.st 4) (.t 1)), none⟩, ⟨(some 14), (.build [(1, (.str [])), (1, (.str []))] [(0, (1, (.c (.str [107])))), (1, (1, (.c (.str [120, 10, 121]))))]), none⟩, ⟨(some 15), (.buildSl 75 2 [(.t 14)]), none⟩, ⟨(some 16), (.build [(20, (.blob (List.replicate 20 (.int .u8 0)))), (1, (.con (.slice none 0 0))), (1, (.str [])), (1, (.str [])), (1, (.int .i64 0)), (1, (.str [])), (1, (.str [])), (1, (.str [])), (1, (.int .i64 0)), (1, (.str [])), (1, (.con (.slice none 0 0))), (1, (.str []))] [(21, (4, (.t 12))), (25, (4, (.t 13))), (29, (1, (.t 15))), (30, (1, (.c (.str [109]))))]), none⟩, ⟨(some 17), (.call 9 [(.t 16)]), none⟩, ⟨(some 11), (.mv (.t 17)), none⟩, ⟨(some 18), (.ext (.t 11) 0), none⟩, ⟨(some 19), (.ext (.t 11) 1), none⟩, ⟨(some 3), (.mv (.t 18)), none⟩, ⟨(some 4), (.mv (.t 19)), none⟩]) (.seq (.reg none [⟨(some 21), (.mv (.t 3)), none⟩, ⟨(some 22), (.call 21 [(.t 21)]), none⟩, ⟨(some 20), (.mv (.t 22)), none⟩, ⟨(some 23), (.ext (.t 20) 0), none⟩, ⟨(some 24), (.ext (.t 20) 1), none⟩, ⟨(some 5), (.new 34 [(20, (.blob (List.replicate 20 (.int .u8 0)))), (1, (.con (.slice none 0 0))), (1, (.str [])), (1, (.str [])), (1, (.int .i64 0)), (1, (.str [])), (1, (.str [])), (1, (.str [])), (1, (.int .i64 0)), (1, (.str [])), (1, (.con (.slice none 0 0))), (1, (.str []))]), none⟩, ⟨none, (.st (.st 31) (.t 5) (.t 23)), none⟩, ⟨(some 6), (.mv (.t 24)), none⟩]) (.seq (.reg none [⟨(some 25), (.mv (.t 2)), none⟩, ⟨(some 26), (.bin .eql (.t 25) (.c (.int .i64 0))), none⟩, ⟨(some 27), (.mv (.t 26)), none⟩, ⟨(some 28), (.ld (.st 4) (.t 1)), (some (27, true))⟩, ⟨(some 29), (.build [(1, (.str [])), (1, (.str [])), (1, (.int .i64 0)), (1, (.str []))] [(0, (1, (.c (.str [65])))), (1, (1, (.c (.str [97, 64, 98])))), (2, (1, (.c (.int .i64 12)))), (3, (1, (.c (.str [43, 48, 48, 48, 48]))))]), (some (27, true))⟩, ⟨(some 30), (.eqS false [(0, ((.one (.str [])), 0)), (1, ((.one (.str [])), 0)), (2, ((.one (.int .i64 0)), 1)), (3, ((.one (.str [])), 0))] (.t 28) (.t 29)), (some (27, true))⟩, ⟨(some 31), (.pick (.t 27) (.t 30) (.c (.bool false))), none⟩, ⟨(some 32), (.mv (.t 31)), none⟩, ⟨(some 33), (.mv (.t 4)), (some (32, true))⟩, ⟨(some 34), (.bin .eql (.t 33) (.c (.int .i64 0))), (some (32, true))⟩, ⟨(some 35), (.pick (.t 32) (.t 34) (.c (.bool false))), none⟩, ⟨(some 36), (.mv (.t 35)), none⟩, ⟨(some 37), (.mv (.t 3)), (some (36, true))⟩, ⟨(some 38), (.len none false (.t 37)), (some (36, true))⟩, ⟨(some 39), (.bin .gtr (.t 38) (.c (.int .i64 40))), (some (36, true))⟩, ⟨(some 40), (.pick (.t 36) (.t 39) (.c (.bool false))), none⟩, ⟨(some 41), (.mv (.t 40)), none⟩, ⟨(some 42), (.mv (.t 6)), (some (41, true))⟩, ⟨(some 43), (.bin .eql (.t 42) (.c (.int .i64 0))), (some (41, true))⟩, ⟨(some 44), (.pick (.t 41) (.t 43) (.c (.bool false))), none⟩, ⟨(some 45), (.mv (.t 44)), none⟩, ⟨(some 46), (.fa 30 (.t 5)), (some (45, true))⟩, ⟨(some 47), (.ld (.one (.str [])) (.t 46)), (some (45, true))⟩, ⟨(some 48), (.bin .eql (.t 47) (.c (.str [109]))), (some (45, true))⟩, ⟨(some 49), (.pick (.t 45) (.t 48) (.c (.bool false))), none⟩, ⟨(some 50), (.mv (.t 49)), none⟩, ⟨(some 51), (.fa 29 (.t 5)), (some (50, true))⟩, ⟨(some 52), (.ld (.one (.con (.slice none 0 0))) (.t 51)), (some (50, true))⟩, ⟨(some 53), (.len none false (.t 52)), (some (50, true))⟩, ⟨(some 54), (.bin .eql (.t 53) (.c (.int .i64 1))), (some (50, true))⟩, ⟨(some 55), (.pick (.t 50) (.t 54) (.c (.bool false))), none⟩, ⟨(some 0), (.mv (.t 55)), none⟩]) .ret)))))
def r_known11 : List ARes := [(.t 0)]
theorem s_known11 : slimF Tryz.prog Tryz.f11 = some (c_known11, r_known11) := by kernel_rfl
def c_lparses : ACode := (.seq (.reg none [⟨(some 2), (.mv (.c (.bool false))), none⟩]) (.seq (.reg none [⟨(some 12), (.mv (.t 0)), none⟩, ⟨(some 13), (.mv (.t 0)), none⟩, ⟨(some 14), (.len none false (.t 13)), none⟩, ⟨(some 15), (.mm false (.t 14) (.c (.int .i64 2000))), none⟩, ⟨(some 16), (.sl 1 (.t 12) none (some (.t 15))), none⟩, ⟨(some 0), (.mv (.t 16)), none⟩]) (.seq (.reg none [⟨(some 17), (.mv (.t 0)), none⟩, ⟨(some 18), (.toStr (.t 17)), none⟩, ⟨(some 3), (.mv (.t 18)), none⟩]) (.seq (.reg none [⟨(some 20), (.mv (.t 0)), none⟩, ⟨(some 21), (.call 21 [(.t 20)]), none⟩, ⟨(some 19), (.mv (.t 21)), none⟩, ⟨(some 22), (.ext (.t 19) 0), none⟩, ⟨(some 23), (.ext (.t 19) 1), none⟩, ⟨(some 4), (.new 34 [(20, (.blob (List.replicate 20 (.int .u8 0)))), (1, (.con (.slice none 0 0))), (1, (.str [])), (1, (.str [])), (1, (.int .i64 0)), (1, (.str [])), (1, (.str [])), (1, (.str [])), (1, (.int .i64 0)), (1, (.str [])), (1, (.con (.slice none 0 0))), (1, (.str []))]), none⟩, ⟨none, (.st (.st 31) (.t 4) (.t 22)), none⟩, ⟨(some 5), (.mv (.t 23)), none⟩]) (.seq (.reg none [⟨(some 25), (.mv (.t 3)), none⟩, ⟨(some 26), (.call 22 [(.t 25)]), none⟩, ⟨(some 24), (.mv (.t 26)), none⟩, ⟨(some 27), (.ext (.t 24) 0), none⟩, ⟨(some 28), (.ext (.t 24) 1), none⟩, ⟨(some 6), (.new 28 [(20, (.blob (List.replicate 20 (.int .u8 0)))), (1, (.con (.slice none 0 0))), (1, (.str [])), (1, (.str [])), (1, (.int .i64 0)), (1, (.str [])), (1, (.str [])), (1, (.str [])), (1, (.int .i64 0)), (1, (.str [])), (1, (.con (.slice none 0 0))), (1, (.str []))]), none⟩, ⟨none, (.st (.st 31) (.t 6) (.t 27)), none⟩, ⟨(some 7), (.mv (.t 28)), none⟩]) (.seq (.reg none [⟨(some 30), (.mv (.t 0)), none⟩, ⟨(some 31), (.call 23 [(.t 30)]), none⟩, ⟨(some 29), (.mv (.t 31)), none⟩, ⟨(some 32), (.ext (.t 29) 0), none⟩, ⟨(some 33), (.ext (.t 29) 1), none⟩, ⟨(some 8), (.new 60 [(20, (.blob (List.replicate 20 (.int .u8 0)))), (1, (.int .i64 0)), (1, (.str [])), (1, (.str [])), (1, (.str [])), (1, (.int .i64 0)), (1, (.str [])), (1, (.str []))]), none⟩, ⟨none, (.st (.st 27) (.t 8) (.t 32)), none⟩, ⟨(some 9), (.mv (.t 33)), none⟩]) (.seq (.reg none [⟨(some 35), (.mv (.t 3)), none⟩, ⟨(some 36), (.call 24 [(.t 35)]), none⟩, ⟨(some 34), (.mv (.t 36)), none⟩, ⟨(some 37), (.ext (.t 34) 0), none⟩, ⟨(some 38), (.ext (.t 34) 1), none⟩, ⟨(some 10), (.new 64 [(20, (.blob (List.replicate 20 (.int .u8 0)))), (1, (.int .i64 0)), (1, (.str [])), (1, (.str [])), (1, (.str [])), (1, (.int .i64 0)), (1, (.str [])), (1, (.str []))]), none⟩, ⟨none, (.st (.st 27) (.t 10) (.t 37)), none⟩, ⟨(some 11), (.mv (.t 38)), none⟩]) (.seq (.reg (some [(0, true), (1, true), (2, false), (3, false), (4, false), (5, true), (6, true), (7, true), (8, true), (9, true), (10, true), (11, true), (12, true), (13, true), (14, true), (15, false), (16, false), (16, false), (18, true), (19, true), (20, true), (21, false), (22, false), (23, false), (24, true), (25, true), (26, true), (27, true), (28, true), (29, true), (30, true), (31, true), (32, true), (33, true), (34, false), (35, false), (35, false), (37, true), (38, true), (39, true), (40, false), (41, false), (42, false), (43, true), (44, true), (45, true)]) [⟨(some 39), (.call 11 []), none⟩, ⟨(some 40), (.mv (.t 39)), none⟩, ⟨(some 41), (.mv (.t 5)), (some (40, true))⟩, ⟨(some 42), (.bin .eql (.t 41) (.c (.int .i64 0))), (some (40, true))⟩, ⟨(some 43), (.mv (.t 7)), (some (40, true))⟩, ⟨(some 44), (.eqB false (.t 42) (.t 43)), (some (40, true))⟩, ⟨(some 45), (.pick (.t 40) (.t 44) (.c (.bool false))), none⟩, ⟨(some 46), (.mv (.t 45)), none⟩, ⟨(some 47), (.mv (.t 7)), (some (46, true))⟩, ⟨(some 48), (.mv (.t 47)), (some (46, true))⟩, ⟨(some 49), (.mv (.t 5)), (some (48, false))⟩, ⟨(some 50), (.bin .eql (.t 49) (.c (.int .i64 4))), (some (48, false))⟩, ⟨(some 51), (.pick (.t 48) (.c (.bool true)) (.t 50)), (some (46, true))⟩, ⟨(some 52), (.pick (.t 46) (.t 51) (.c (.bool false))), none⟩, ⟨(some 53), (.mv (.t 52)), none⟩, ⟨(some 54), (.ld (.st 31) (.t 4)), (some (53, true))⟩, ⟨(some 55), (.call 8 [(.t 54)]), (some (53, true))⟩, ⟨(some 56), (.ld (.st 31) (.t 6)), (some (53, true))⟩, ⟨(some 57), (.call 13 [(.t 55), (.t 56)]), (some (53, true))⟩, ⟨(some 58), (.pick (.t 53) (.t 57) (.c (.bool false))), none⟩, ⟨(some 59), (.mv (.t 58)), none⟩, ⟨(some 60), (.mv (.t 9)), (some (59, true))⟩, ⟨(some 61), (.bin .eql (.t 60) (.c (.int .i64 0))), (some (59, true))⟩, ⟨(some 62), (.mv (.t 11)), (some (59, true))⟩, ⟨(some 63), (.eqB false (.t 61) (.t 62)), (some (59, true))⟩, ⟨(some 64), (.pick (.t 59) (.t 63) (.c (.bool false))), none⟩, ⟨(some 65), (.mv (.t 64)), none⟩, ⟨(some 66), (.mv (.t 11)), (some (65, true))⟩, ⟨(some 67), (.mv (.t 66)), (some (65, true))⟩, ⟨(some 68), (.mv (.t 9)), (some (67, false))⟩, ⟨(some 69), (.bin .eql (.t 68) (.c (.int .i64 4))), (some (67, false))⟩, ⟨(some 70), (.pick (.t 67) (.c (.bool true)) (.t 69)), (some (65, true))⟩, ⟨(some 71), (.pick (.t 65) (.t 70) (.c (.bool false))), none⟩, ⟨(some 72), (.mv (.t 71)), none⟩, ⟨(some 73), (.ld (.st 27) (.t 8)), (some (72, true))⟩, ⟨(some 74), (.call 25 [(.t 73)]), (some (72, true))⟩, ⟨(some 75), (.ld (.st 27) (.t 10)), (some (72, true))⟩, ⟨(some 76), (.eqS false [(0, ((.arr 20), 20)), (20, ((.one (.int .i64 0)), 1)), (21, ((.one (.str [])), 0)), (22, ((.one (.str [])), 0)), (23, ((.one (.str [])), 0)), (24, ((.one (.int .i64 0)), 1)), (25, ((.one (.str [])), 0)), (26, ((.one (.str [])), 0))] (.t 74) (.t 75)), (some (72, true))⟩, ⟨(some 77), (.pick (.t 72) (.t 76) (.c (.bool false))), none⟩, ⟨(some 78), (.mv (.t 77)), none⟩, ⟨(some 79), (.mv (.t 0)), (some (78, true))⟩, ⟨(some 80), (.toStr (.t 79)), (some (78, true))⟩, ⟨(some 81), (.mv (.t 3)), (some (78, true))⟩, ⟨(some 82), (.bin .eql (.t 80) (.t 81)), (some (78, true))⟩, ⟨(some 83), (.pick (.t 78) (.t 82) (.c (.bool false))), none⟩, ⟨(some 2), (.mv (.t 83)), none⟩]) .ret))))))))
def r_lparses : List ARes := [(.t 2)]
theorem s_lparses : slimF Tryz.prog Tryz.f5 = some (c_lparses, r_lparses) := by kernel_rfl
end Go.Proofs.YtlkaaoekbmegkaaGreatDoor
namespace Go.Proofs.YtlkaaoekbmegkaaGreatDoor
set_option linter.all false
open Go.RowKit
open Go.Lib (index hasPrefix cut indexAny itoa)
def phiPrn : Phi := phiL [(15, [], textS), (30, [], cfeS), (34, [], hexS), (33, [], bwsS), (35, [], replS), (36, [], bstrS)]
theorem phiPrn_ok : PhiOk Tryz.prog phiPrn := phi_cons ctext_ok (by kernel_rfl) (phi_cons cfe_ok (by kernel_rfl) (phi_cons hex_ok (by kernel_rfl) (phi_cons bws_ok (by kernel_rfl) (phi_cons repl_ok (by kernel_rfl) (phi_cons bstr_ok (by kernel_rfl) phi_nil)))))
theorem phiPrn_1 : phiPrn 15 = some ([], textS) := rfl
theorem phiPrn_2 : phiPrn 30 = some ([], cfeS) := rfl
theorem phiPrn_3 : phiPrn 34 = some ([], hexS) := rfl
theorem phiPrn_4 : phiPrn 33 = some ([], bwsS) := rfl
theorem phiPrn_5 : phiPrn 35 = some ([], replS) := rfl
theorem phiPrn_6 : phiPrn 36 = some ([], bstrS) := rfl
set_option maxHeartbeats 4000000 in
theorem prn_ok : FnOk Tryz.prog 9 prnS := by
  refine fn_slim2 Tryz.func9 s_cprn phiPrn_ok ?_
  intro xs hp r hs hp'
  unfold prnS at hs
  split at hs
  · rename_i t kq ps an am at' az cn cm ct cz ke es m
    obtain ⟨q1, q2, q3, q4, q5, q6⟩ := prnR_pre hs hp'
    generalize unV t = t at *
    subst q1
    generalize ps.map unId = ps at *
    subst q2
    generalize es.map unEx = es at *
    subst q3
    obtain ⟨z1, z2, z3, z0, z4, z5, z6, z7⟩ := q6
    simp only at z0 z1 z2 z3 z4 z5 z6 z7
    refine ⟨len_le (by kernel_rfl), ?_⟩
    have hk : ∀ x ∈ es, x.1.length < 4294967281 := fun x hx => by have := (z5 x hx).1; omega
    simp only [c_cprn, phiPrn_1, textS, textR, go_sem, Nat.reduceDiv, Nat.reduceMod, ↓reduceIte, Nat.reduceEqDiff, Nat.reduceBEq, Nat.reduceSub, Nat.reduceLT, Nat.reduceAdd, Nat.reduceLeDiff, reduceCtorEq, Int.reduceEq, Int.reduceNe, Int.reduceLT, Int.reduceLE, Int.reduceToNat]
    refine ⟨z6, z7, ?_⟩
    generalize ha : textW ⟨an, am, at', az⟩ = a at *
    generalize hb : textW ⟨cn, cm, ct, cz⟩ = b at *
    cases h1 : rightW ⟨an, am, at', az⟩ with
    | false =>
      rw [prnR_f _ (rightC_a h1)] at hs
      injection hs with hs; subst hs
      simp only [k_cprn_3, r_cprn, if_true, if_false, go_sem, Nat.reduceDiv, Nat.reduceMod, ↓reduceIte, Nat.reduceEqDiff, Nat.reduceBEq, Nat.reduceSub, Nat.reduceLT, Nat.reduceAdd, Nat.reduceLeDiff, reduceCtorEq, Int.reduceEq, Int.reduceNe, Int.reduceLT, Int.reduceLE, Int.reduceToNat]
    | true =>
      cases h2 : rightW ⟨cn, cm, ct, cz⟩ with
      | false =>
        rw [prnR_f _ (rightC_b h2)] at hs
        injection hs with hs; subst hs
        simp only [k_cprn_3, r_cprn, if_true, if_false, go_sem, Nat.reduceDiv, Nat.reduceMod, ↓reduceIte, Nat.reduceEqDiff, Nat.reduceBEq, Nat.reduceSub, Nat.reduceLT, Nat.reduceAdd, Nat.reduceLeDiff, reduceCtorEq, Int.reduceEq, Int.reduceNe, Int.reduceLT, Int.reduceLE, Int.reduceToNat]
      | true =>
        cases h3 : es.any badE with
        | true =>
          rw [prnR_f _ (rightC_e h3)] at hs
          injection hs with hs; subst hs
          simp only [k_cprn_3, r_cprn, phiPrn_2, cfeS, unEx_map, h3, if_true, if_false, go_sem, Nat.reduceDiv, Nat.reduceMod, ↓reduceIte, Nat.reduceEqDiff, Nat.reduceBEq, Nat.reduceSub, Nat.reduceLT, Nat.reduceAdd, Nat.reduceLeDiff, reduceCtorEq, Int.reduceEq, Int.reduceNe, Int.reduceLT, Int.reduceLE, Int.reduceToNat]
          exact ⟨q5, z4, hk⟩
        | false =>
          rw [prnR_t _ (rightC_t h1 h2 h3)] at hs
          injection hs with hs; subst hs
          unfold bodyC at z1
          simp only [ha, hb] at z1
          unfold bodyC
          simp only [ha, hb]
          simp only [k_cprn_3, phiPrn_2, cfeS, unEx_map, h3, if_true, if_false, go_sem, Nat.reduceDiv, Nat.reduceMod, ↓reduceIte, Nat.reduceEqDiff, Nat.reduceBEq, Nat.reduceSub, Nat.reduceLT, Nat.reduceAdd, Nat.reduceLeDiff, reduceCtorEq, Int.reduceEq, Int.reduceNe, Int.reduceLT, Int.reduceLE, Int.reduceToNat]
          refine ⟨⟨q5, z4, hk⟩, ?_⟩
          simp only [k_cprn_4, phiPrn_3, phiPrn_4, hexS, bwsS, selfX, unV_U, go_sem, Nat.reduceDiv, Nat.reduceMod, ↓reduceIte, Nat.reduceEqDiff, Nat.reduceBEq, Nat.reduceSub, Nat.reduceLT, Nat.reduceAdd, Nat.reduceLeDiff, reduceCtorEq, Int.reduceEq, Int.reduceNe, Int.reduceLT, Int.reduceLE, Int.reduceToNat]
          have hh := hexL_length t
          have htot : (printC t ps a b es m).length ≤ 1000000000 := z1
          unfold printC at htot
          simp only [List.length_append] at htot
          have hhc : (headC t).length = 6 + (hexL t).length := by simp only [headC, List.length_append, List.length_cons, List.length_nil]; omega
          refine ⟨z2, by (first | omega | (simp only [lenOk, bytesOk, inI, IntKind.bits, List.length_append, Bs_len, List.length_cons, List.length_nil, List.length_map, List.length_take, List.length_drop, List.length_replicate]; omega)), by (first | omega | (simp only [lenOk, bytesOk, inI, IntKind.bits, List.length_append, Bs_len, List.length_cons, List.length_nil, List.length_map, List.length_take, List.length_drop, List.length_replicate]; omega)), by (first | omega | (simp only [lenOk, bytesOk, inI, IntKind.bits, List.length_append, Bs_len, List.length_cons, List.length_nil, List.length_map, List.length_take, List.length_drop, List.length_replicate]; omega)), ?_⟩
          refine loop2P [] [1, 4, 6, 8, 43, 44, 45] [0, 1, 2] (fun q : Nat × List UInt8 => ⟨[(1, .ref 0 0 0), (4, .str a), (6, .str b), (8, .ref 1 0 0), (43, .sl kq (ps.map idAV)), (44, .int .i64 (ps.length : Int)), (45, .int .i64 (q.1 : Int))],
            [.cells 34 [(20, .blob (t.map U)), (1, .sl kq (ps.map idAV)), (1, .str an), (1, .str am), (1, .int .i64 at'), (1, .str az), (1, .str cn), (1, .str cm), (1, .int .i64 ct), (1, .str cz), (1, .sl ke (es.map exV)), (1, .str m)], .cells 80 [(1, .ref 1 0 0), (1, .own 2 q.1)], .row 5 1 q.1 (Bs q.2)]⟩)
            (fun q => q.1 ≤ ps.length ∧ q.2 = headC t ++ (ps.take q.1).flatMap parL) (fun q => ps.length - q.1) (0, headC t) rfl ⟨Nat.zero_le _, by simp⟩ ⟨rfl, by rfl⟩ (fun q hq R hR => ?_)
          obtain ⟨i, acc⟩ := q
          simp only at hq
          obtain ⟨hi, rfl⟩ := hq
          simp only at hi hR ⊢
          have hle := flatMap_take_le parL ps i
          by_cases hil : i < ps.length
          · have c1 : decide ((i : Int) < (ps.length : Int)) = true := decide_eq_true (by omega)
            have hk : kq = 20 := q4.resolve_right (by intro h; have := congrArg List.length h; simp at this; rw [this] at hil; simp at hil)
            subst hk
            have hget := getD_map idAV ps [] (.blob (List.replicate 20 (.int .u8 0))) hil
            have hga : ps.getD i [] = ps[i] := by simp [List.getD_eq_getElem?_getD, List.getElem?_eq_getElem hil]
            have hlen := z3 ps[i] (List.getElem_mem _)
            have hhx := hexL_length ps[i]
            have hle2 := flatMap_take_le parL ps (i + 1)
            rw [← flatMap_take parL ps hil, List.length_append] at hle2
            have hpl : (parL ps[i]).length = 8 + (hexL ps[i]).length := by simp only [parL, List.length_append, List.length_cons, List.length_nil]; omega
            simp only [b_cprn_0, phiPrn_3, phiPrn_4, hexS, bwsS, selfX, unV_U, c1, hget, hga, idAV, Int.toNat_natCast, List.length_map, hlen, Bs_app, go_sem, Nat.reduceDiv, Nat.reduceMod, ↓reduceIte, Nat.reduceEqDiff, Nat.reduceBEq, Nat.reduceSub, Nat.reduceLT, Nat.reduceAdd, Nat.reduceLeDiff, reduceCtorEq, Int.reduceEq, Int.reduceNe, Int.reduceLT, Int.reduceLE, Int.reduceToNat]
            refine ⟨⟨by omega, by omega⟩, by (first | omega | (simp only [lenOk, bytesOk, inI, IntKind.bits, List.length_append, Bs_len, List.length_cons, List.length_nil, List.length_map, List.length_take, List.length_drop, List.length_replicate]; omega)), by (first | omega | (simp only [lenOk, bytesOk, inI, IntKind.bits, List.length_append, Bs_len, List.length_cons, List.length_nil, List.length_map, List.length_take, List.length_drop, List.length_replicate]; omega)), by (first | omega | (simp only [lenOk, bytesOk, inI, IntKind.bits, List.length_append, Bs_len, List.length_cons, List.length_nil, List.length_map, List.length_take, List.length_drop, List.length_replicate]; omega)), by (first | omega | (simp only [lenOk, bytesOk, inI, IntKind.bits, List.length_append, Bs_len, List.length_cons, List.length_nil, List.length_map, List.length_take, List.length_drop, List.length_replicate]; omega)), hR _ (i + 1, headC t ++ (ps.take (i + 1)).flatMap parL) ⟨by simp only; omega, rfl⟩ (by simp only; omega) ?_⟩
            simp only
            rw [← flatMap_take parL ps hil, ← List.append_assoc]
            rfl
          · have c1 : decide ((i : Int) < (ps.length : Int)) = false := decide_eq_false (by omega)
            obtain rfl : i = ps.length := by omega
            rw [List.take_length]
            simp only [b_cprn_0, t_cprn_1, phiPrn_4, bwsS, selfX, c1, Bs_app, go_sem, Nat.reduceDiv, Nat.reduceMod, ↓reduceIte, Nat.reduceEqDiff, Nat.reduceBEq, Nat.reduceSub, Nat.reduceLT, Nat.reduceAdd, Nat.reduceLeDiff, reduceCtorEq, Int.reduceEq, Int.reduceNe, Int.reduceLT, Int.reduceLE, Int.reduceToNat]
            have hmc : (midC a b).length = 20 + a.length + b.length - 1 := by simp only [midC, List.length_append, List.length_cons, List.length_nil]; omega
            have hmt : (midC a b).length ≤ 1000000000 := by omega
            refine ⟨by (first | omega | (simp only [lenOk, bytesOk, inI, IntKind.bits, List.length_append, Bs_len, List.length_cons, List.length_nil, List.length_map, List.length_take, List.length_drop, List.length_replicate]; omega)), by (first | omega | (simp only [lenOk, bytesOk, inI, IntKind.bits, List.length_append, Bs_len, List.length_cons, List.length_nil, List.length_map, List.length_take, List.length_drop, List.length_replicate]; omega)), by (first | omega | (simp only [lenOk, bytesOk, inI, IntKind.bits, List.length_append, Bs_len, List.length_cons, List.length_nil, List.length_map, List.length_take, List.length_drop, List.length_replicate]; omega)), by (first | omega | (simp only [lenOk, bytesOk, inI, IntKind.bits, List.length_append, Bs_len, List.length_cons, List.length_nil, List.length_map, List.length_take, List.length_drop, List.length_replicate]; omega)), by (first | omega | (simp only [lenOk, bytesOk, inI, IntKind.bits, List.length_append, Bs_len, List.length_cons, List.length_nil, List.length_map, List.length_take, List.length_drop, List.length_replicate]; omega)), ?_⟩
            clear hR R
            refine loop2P [] [1, 8, 63, 64, 65] [0, 1, 2] (fun q : Nat × List UInt8 => ⟨[(1, .ref 0 0 0), (8, .ref 1 0 0), (63, .sl ke (es.map exV)), (64, .int .i64 (es.length : Int)), (65, .int .i64 (q.1 : Int))],
              [.cells 34 [(20, .blob (t.map U)), (1, .sl kq (ps.map idAV)), (1, .str an), (1, .str am), (1, .int .i64 at'), (1, .str az), (1, .str cn), (1, .str cm), (1, .int .i64 ct), (1, .str cz), (1, .sl ke (es.map exV)), (1, .str m)], .cells 80 [(1, .ref 1 0 0), (1, .own 2 (ps.length + 1 + q.1))], .row 5 1 (ps.length + 1 + q.1) (Bs q.2)]⟩)
              (fun q => q.1 ≤ es.length ∧ q.2 = headC t ++ ps.flatMap parL ++ midC a b ++ (es.take q.1).flatMap exL) (fun q => es.length - q.1) (0, headC t ++ ps.flatMap parL ++ midC a b) (by rfl) ⟨Nat.zero_le _, by simp⟩ ⟨rfl, by rfl⟩ (fun q hq R hR => ?_)
            obtain ⟨j, acc⟩ := q
            simp only at hq
            obtain ⟨hj, rfl⟩ := hq
            simp only at hj hR ⊢
            have hle := flatMap_take_le exL es j
            by_cases hjl : j < es.length
            · have c1 : decide ((j : Int) < (es.length : Int)) = true := decide_eq_true (by omega)
              have hk : ke = 2 := q5.resolve_right (by intro h; have := congrArg List.length h; simp at this; rw [this] at hjl; simp at hjl)
              subst hk
              have hget := getD_map exV es ([], []) (.agg [(1, (.str [])), (1, (.str []))]) hjl
              have hga : es.getD j ([], []) = es[j] := by simp [List.getD_eq_getElem?_getD, List.getElem?_eq_getElem hjl]
              obtain ⟨l1, l2⟩ := z5 es[j] (List.getElem_mem _)
              have hle2 := flatMap_take_le exL es (j + 1)
              rw [← flatMap_take exL es hjl, List.length_append] at hle2
              have hpl : (exL es[j]).length = es[j].1.length + (subst1 10 [10, 32] es[j].2).length + 2 := by simp only [exL, List.length_append, List.length_cons, List.length_nil]; omega
              have dn : decide (([10] : List UInt8) = [10, 32]) = false := by decide
              simp only [b_cprn_1, phiPrn_4, phiPrn_5, bwsS, replS, selfX, c1, hget, hga, exV, dn, Int.toNat_natCast, Bs_app, go_sem, Nat.reduceDiv, Nat.reduceMod, ↓reduceIte, Nat.reduceEqDiff, Nat.reduceBEq, Nat.reduceSub, Nat.reduceLT, Nat.reduceAdd, Nat.reduceLeDiff, reduceCtorEq, Int.reduceEq, Int.reduceNe, Int.reduceLT, Int.reduceLE, Int.reduceToNat]
              refine ⟨⟨by omega, by omega⟩, by (first | omega | (simp only [lenOk, bytesOk, inI, IntKind.bits, List.length_append, Bs_len, List.length_cons, List.length_nil, List.length_map, List.length_take, List.length_drop, List.length_replicate]; omega)), l2, by (first | omega | (simp only [lenOk, bytesOk, inI, IntKind.bits, List.length_append, Bs_len, List.length_cons, List.length_nil, List.length_map, List.length_take, List.length_drop, List.length_replicate]; omega)), by (first | omega | (simp only [lenOk, bytesOk, inI, IntKind.bits, List.length_append, Bs_len, List.length_cons, List.length_nil, List.length_map, List.length_take, List.length_drop, List.length_replicate]; omega)), by (first | omega | (simp only [lenOk, bytesOk, inI, IntKind.bits, List.length_append, Bs_len, List.length_cons, List.length_nil, List.length_map, List.length_take, List.length_drop, List.length_replicate]; omega)), by (first | omega | (simp only [lenOk, bytesOk, inI, IntKind.bits, List.length_append, Bs_len, List.length_cons, List.length_nil, List.length_map, List.length_take, List.length_drop, List.length_replicate]; omega)), hR _ (j + 1, headC t ++ ps.flatMap parL ++ midC a b ++ (es.take (j + 1)).flatMap exL) ⟨by simp only; omega, rfl⟩ (by simp only; omega) ?_⟩
              simp only
              rw [← flatMap_take exL es hjl, show headC t ++ ps.flatMap parL ++ midC a b ++ ((es.take j).flatMap exL ++ exL es[j]) = headC t ++ ps.flatMap parL ++ midC a b ++ (es.take j).flatMap exL ++ exL es[j] from (List.append_assoc _ _ _).symm]
              rfl
            · have c1 : decide ((j : Int) < (es.length : Int)) = false := decide_eq_false (by omega)
              obtain rfl : j = es.length := by omega
              rw [List.take_length]
              simp only [b_cprn_1, t_cprn_0, r_cprn, phiPrn_4, phiPrn_6, bwsS, bstrS, selfX, unB_Bs, c1, Bs_app, go_sem, Nat.reduceDiv, Nat.reduceMod, ↓reduceIte, Nat.reduceEqDiff, Nat.reduceBEq, Nat.reduceSub, Nat.reduceLT, Nat.reduceAdd, Nat.reduceLeDiff, reduceCtorEq, Int.reduceEq, Int.reduceNe, Int.reduceLT, Int.reduceLE, Int.reduceToNat]
              refine ⟨by (first | omega | (simp only [lenOk, bytesOk, inI, IntKind.bits, List.length_append, Bs_len, List.length_cons, List.length_nil, List.length_map, List.length_take, List.length_drop, List.length_replicate]; omega)), by (first | omega | (simp only [lenOk, bytesOk, inI, IntKind.bits, List.length_append, Bs_len, List.length_cons, List.length_nil, List.length_map, List.length_take, List.length_drop, List.length_replicate]; omega)), by (first | omega | (simp only [lenOk, bytesOk, inI, IntKind.bits, List.length_append, Bs_len, List.length_cons, List.length_nil, List.length_map, List.length_take, List.length_drop, List.length_replicate]; omega)), ?_⟩
              rfl
  · cases hs
end Go.Proofs.YtlkaaoekbmegkaaGreatDoor
namespace Go.Proofs.YtlkaaoekbmegkaaGreatDoor
set_option linter.all false
open Go.RowKit
open Go.Lib (index hasPrefix cut indexAny itoa decDigits)
theorem take_min {α : Type} (l : List α) (k : Nat) : l.take (min (l.length : Int) (k : Int)).toNat = l.take k := by
  rcases Nat.le_total l.length k with h | h
  · rw [List.take_of_length_le (by omega), List.take_of_length_le h]
  · rw [show (min (l.length : Int) (k : Int)).toNat = k by omega]
def lwhoOfS : Spec := fun xs hp => match xs, hp with
  | [.agg [(1, .str n), (1, .str m), (1, .int .i64 t), (1, .str z)]], [] => some ⟨.agg [(1, .str n), (1, .str m), (1, .int .i64 t), (1, .str z)], [], True⟩
  | _, _ => none
theorem lwhoOf_ok : FnOk Tryz.prog 17 lwhoOfS := by
  refine fn_slim2 Tryz.func17 s_lwhoOf (Φ := phiL []) phi_nil ?_
  intro xs hp r hs hp'
  unfold lwhoOfS at hs
  split at hs
  · injection hs with hs; subst hs
    rename_i n m t z
    refine ⟨len_le (by kernel_rfl), ?_⟩
    simp only [c_lwhoOf, r_lwhoOf, go_sem, Nat.reduceDiv, Nat.reduceMod, ↓reduceIte, Nat.reduceEqDiff, Nat.reduceBEq, Nat.reduceSub, Nat.reduceLT, Nat.reduceAdd, Nat.reduceLeDiff, reduceCtorEq, Int.reduceEq, Int.reduceNe, Int.reduceLT, Int.reduceLE, Int.reduceToNat]
  · cases hs
theorem flat_B (l : List UInt8) : ∀ x, x ∈ Bs l → flatB 4 x = true := by
  intro x hx
  obtain ⟨u, _, rfl⟩ := List.mem_map.1 hx
  rfl
def exW : WhoL := ⟨[65], [97, 64, 98], 12, [43, 48, 48, 48, 48]⟩
def exT : List UInt8 := [65, 32, 60, 97, 64, 98, 62, 32, 49, 50, 32, 43, 48, 48, 48, 48]
theorem exW_right : rightW exW = true := by decide
theorem exW_text : textW exW = exT := by
  have e : itoa 12 = [49, 50] := by
    rw [itoa_dec (by decide), show (12 : Int).toNat = 12 from rfl, decD_big (by decide), decD_small (by decide)]; rfl
  unfold textW exW
  simp only
  rw [e]; rfl
theorem exT_person : personB exT = true ∧ personV exT = exW := by rw [← exW_text]; exact personV_text exW_right
def exC : ComL := ⟨z20L, [], exW, exW, [([107], [120, 10, 121])], [109]⟩
theorem exC_right : rightC exC = true := by decide
theorem exC_len : 40 < (bodyC exC).length ∧ (bodyC exC).length ≤ 1000 := by
  rw [bodyC_shape]
  have h1 : (textW exC.author).length = 16 := by rw [show exC.author = exW from rfl, exW_text]; rfl
  have h2 : (textW exC.committer).length = 16 := by rw [show exC.committer = exW from rfl, exW_text]; rfl
  have h3 := hexL_length exC.tree
  have h4 : exC.tree.length = 20 := rfl
  have h5 : (exC.extras.flatMap exL).length = 7 := by decide
  have h6 : exC.message.length = 1 := rfl
  have h7 : (exC.parents.flatMap parL).length = 0 := rfl
  simp only [List.length_append, List.length_cons, h1, h2, h3, h4, h5, h6, h7, treW, autW, comW, List.length_nil]
  decide
theorem exC_size : sizeOkC exC := by
  have := exC_len
  refine ⟨by omega, rfl, ?_, by decide, by decide, ?_, by decide, by decide⟩
  · intro p hp; cases hp
  · intro x hx; rw [List.mem_singleton.1 hx]; decide
theorem exC_read : parB11 (bodyC exC) = true ∧ parC11 (bodyC exC) = exC := com_body exC_right rfl (by intro p hp; cases hp)
def knownS : Spec := fun xs hp => match xs, hp with
  | [], [] => some ⟨.bool true, [], True⟩
  | _, _ => none
def exWA : List (Nat × AV) := [(1, .str [65]), (1, .str [97, 64, 98]), (1, .int .i64 12), (1, .str [43, 48, 48, 48, 48])]
theorem exP : personR exT = fun pr => some ⟨.tup [.agg exWA, .int .i64 0], [], pr⟩ := by
  funext pr
  unfold personR
  rw [exT_person.1, exT_person.2]; rfl
theorem exP2 : personR [65, 32, 60, 97, 64, 98, 62, 32, 49, 50, 32, 43, 48, 48, 48, 48] = fun pr => some ⟨.tup [.agg exWA, .int .i64 0], [], pr⟩ := exP
def exB : List UInt8 := bodyC exC
theorem exPr (pr : Prop) : prnR ⟨unV (List.replicate 20 (Value.int .u8 0)), [], ⟨[65], [97, 64, 98], 12, [43, 48, 48, 48, 48]⟩, ⟨[65], [97, 64, 98], 12, [43, 48, 48, 48, 48]⟩, [unEx (.agg [(1, .str [107]), (1, .str [120, 10, 121])])], [109]⟩ pr =
    some ⟨.tup [.own 0 0, .int .i64 0], [.row 5 1 0 (Bs exB)], pr⟩ := prnR_t (c := exC) pr exC_right
theorem exRd (pr : Prop) : parR11 (parC11 exB) (parB11 exB) pr = some ⟨.tup [.agg [(20, .blob (z20L.map U)), (1, .own 0 0), (1, .str [65]), (1, .str [97, 64, 98]), (1, .int .i64 12), (1, .str [43, 48, 48, 48, 48]), (1, .str [65]), (1, .str [97, 64, 98]), (1, .int .i64 12), (1, .str [43, 48, 48, 48, 48]), (1, .own 1 1), (1, .str [109])], .int .i64 0],
    [.row 29 20 0 [], .row 75 2 1 [.agg [(1, .str [107]), (1, .str [120, 10, 121])]]], pr⟩ := by
  unfold parR11 exB
  rw [exC_read.1, exC_read.2]; rfl
theorem exB_len : 40 < exB.length ∧ exB.length ≤ 1000 := exC_len
theorem unV_z : List.replicate 20 (Value.int .u8 0) = List.map U (unV (List.replicate 20 (Value.int .u8 0))) := rfl
set_option maxHeartbeats 2000000 in
theorem known11_ok : FnOk Tryz.prog 11 knownS := by
  refine fn_slim2 Tryz.func11 s_known11 (Φ := phiL [(19, [], personS), (9, [], prnS), (21, [], cparS)]) (phi_cons person_ok (by kernel_rfl) (phi_cons prn_ok (by kernel_rfl) (phi_cons cpar_ok (by kernel_rfl) phi_nil))) ?_
  intro xs hp r hs hp'
  unfold knownS at hs
  split at hs
  · injection hs with hs; subst hs
    refine ⟨len_le (by kernel_rfl), ?_⟩
    obtain ⟨h1, h2⟩ := exB_len
    have d1 : decide ((40 : Int) < (exB.length : Int)) = true := decide_eq_true (by omega)
    simp only [c_known11, r_known11, personS, exP2, exWA, prnS, exPr, cparS, unB_Bs, exRd, d1, go_sem, Nat.reduceDiv, Nat.reduceMod, ↓reduceIte, Nat.reduceEqDiff, Nat.reduceBEq, Nat.reduceSub, Nat.reduceLT, Nat.reduceAdd, Nat.reduceLeDiff, reduceCtorEq, Int.reduceEq, Int.reduceNe, Int.reduceLT, Int.reduceLE, Int.reduceToNat]
    refine ⟨⟨⟨unV_z, rfl, .inr trivial, .inl trivial, exC_size⟩, fun x hx => flat_B _ x hx⟩, by omega, ?_⟩
    repeat' apply And.intro
    all_goals first | omega | rfl | (intro x hx; cases hx; done) | exact fun x hx => flat_B _ x hx | (intro x hx; rw [List.mem_singleton.1 hx]; rfl) | skip
  · cases hs
end Go.Proofs.YtlkaaoekbmegkaaGreatDoor
namespace Go.Proofs.YtlkaaoekbmegkaaGreatDoor
set_option linter.all false
open Go.RowKit
def comOwn (c : ComL) : AV := .agg (comPs c.tree (.own 0 c.parents.length) c.author c.committer (.own 1 c.extras.length) c.message)
def argC (t : List Value) (kq : Nat) (ps : List AV) (ke : Nat) (es : List AV) : Prop := t = (unV t).map U ∧ ps = (ps.map unId).map idAV ∧ es = (es.map unEx).map exV ∧ (kq = 20 ∨ ps = []) ∧ (ke = 2 ∨ es = [])
theorem take_snoc {α : Type} (l : List α) {i : Nat} (h : i < l.length) : l.take i ++ [l[i]] = l.take (i + 1) := by
  rw [List.take_add_one, List.getElem?_eq_getElem h, Option.toList_some]
theorem map_take_succ {α β : Type} (f : α → β) (l : List α) {i : Nat} (h : i < l.length) : (l.take i).map f ++ [f l[i]] = (l.take (i + 1)).map f := by
  rw [← take_snoc l h, List.map_append, List.map_cons, List.map_nil]
def lofS : Spec := fun xs hp => match xs, hp with
  | [.agg [(20, .blob t), (1, .sl kq ps), (1, .str an), (1, .str am), (1, .int .i64 at'), (1, .str az), (1, .str cn), (1, .str cm), (1, .int .i64 ct), (1, .str cz), (1, .sl ke es), (1, .str m)]], [] =>
    some ⟨comOwn ⟨unV t, ps.map unId, ⟨an, am, at', az⟩, ⟨cn, cm, ct, cz⟩, es.map unEx, m⟩,
      [.row 22 20 (ps.map unId).length ((ps.map unId).map idAV), .row 74 2 (es.map unEx).length ((es.map unEx).map exV)],
      argC t kq ps ke es ∧ (unV t).length = 20 ∧ (∀ p ∈ ps.map unId, p.length = 20) ∧ (ps.map unId).length ≤ 1000000 ∧ (es.map unEx).length ≤ 1000000⟩
  | _, _ => none
set_option maxHeartbeats 4000000 in
theorem lof_ok : FnOk Tryz.prog 8 lofS := by
  refine fn_slim2 Tryz.func8 s_lof (Φ := phiL [(17, [], lwhoOfS)]) (phi_cons lwhoOf_ok (by kernel_rfl) phi_nil) ?_
  intro xs hp r hs hp'
  unfold lofS at hs
  split at hs
  · injection hs with hs; subst hs
    rename_i t kq ps an am at' az cn cm ct cz ke es m
    obtain ⟨⟨q1, q2, q3, q4, q5⟩, l1, l2, l3, l4⟩ := hp'
    generalize unV t = t at *
    subst q1
    generalize ps.map unId = ps at *
    subst q2
    generalize es.map unEx = es at *
    subst q3
    refine ⟨len_le (by kernel_rfl), ?_⟩
    simp only [c_lof, lwhoOfS, go_sem, Nat.reduceDiv, Nat.reduceMod, ↓reduceIte, Nat.reduceEqDiff, Nat.reduceBEq, Nat.reduceSub, Nat.reduceLT, Nat.reduceAdd, Nat.reduceLeDiff, reduceCtorEq, Int.reduceEq, Int.reduceNe, Int.reduceLT, Int.reduceLE, Int.reduceToNat]
    refine ⟨l1, ?_⟩
    refine loop2P [(4225, 22, 20)] [1, 2, 3, 4] [0, 1, 2, 3] (fun i : Nat => ⟨[(1, .ref 0 0 0), (2, .ref 1 0 0), (3, .ref 2 0 0), (4, .int .i64 (i : Int))],
      [.cells 34 [(20, .blob (t.map U)), (1, .sl kq (ps.map idAV)), (1, .str an), (1, .str am), (1, .int .i64 at'), (1, .str az), (1, .str cn), (1, .str cm), (1, .int .i64 ct), (1, .str cz), (1, .sl ke (es.map exV)), (1, .str m)], .cells 28 com0, .cells 28 (comPs t (.own 3 i) ⟨an, am, at', az⟩ ⟨cn, cm, ct, cz⟩ (.con (.slice none 0 0)) m), .row 22 20 i ((ps.take i).map idAV)]⟩)
      (fun i => i ≤ ps.length) (fun i => ps.length - i) 0 (by rfl) (Nat.zero_le _) ⟨rfl, by rfl⟩ (fun i hi R hR => ?_)
    by_cases hil : i < ps.length
    · have c1 : decide ((i : Int) < (ps.length : Int)) = true := decide_eq_true (by omega)
      have hk : kq = 20 := q4.resolve_right (by intro h; have := congrArg List.length h; simp at this; rw [this] at hil; simp at hil)
      subst hk
      have hget := getD_map idAV ps [] (.blob (List.replicate 20 (.int .u8 0))) hil
      have hga : ps.getD i [] = ps[i] := by simp [List.getD_eq_getElem?_getD, List.getElem?_eq_getElem hil]
      have hl1 := l2 ps[i] (List.getElem_mem _)
      have hlen : ((ps.take i).map idAV ++ [AV.blob ((ps[i]).map U)]).length = i + 1 := by simp; omega
      have hsn : (ps.take i).map idAV ++ [AV.blob ((ps[i]).map U)] = (ps.take (i + 1)).map idAV := map_take_succ idAV ps hil
      simp only [b_lof_0, comPs, com0, who0, c1, hget, hga, idAV, hl1, Int.toNat_natCast, List.length_map, go_sem, Nat.reduceDiv, Nat.reduceMod, ↓reduceIte, Nat.reduceEqDiff, Nat.reduceBEq, Nat.reduceSub, Nat.reduceLT, Nat.reduceAdd, Nat.reduceLeDiff, reduceCtorEq, Int.reduceEq, Int.reduceNe, Int.reduceLT, Int.reduceLE, Int.reduceToNat]
      refine ⟨⟨by omega, by omega⟩, ⟨by rw [hlen]; (first | omega | (simp only [lenOk, bytesOk, inI, IntKind.bits, List.length_append, Bs_len, List.length_cons, List.length_nil, List.length_map, List.length_take, List.length_drop, List.length_replicate]; omega)), by rw [hlen]; (first | omega | (simp only [lenOk, bytesOk, inI, IntKind.bits, List.length_append, Bs_len, List.length_cons, List.length_nil, List.length_map, List.length_take, List.length_drop, List.length_replicate]; omega))⟩, ⟨by omega, by omega⟩, hR _ (i + 1) hil (by omega) ?_⟩
      rw [hsn]; rfl
    · have c1 : decide ((i : Int) < (ps.length : Int)) = false := decide_eq_false (by omega)
      obtain rfl : i = ps.length := by omega
      rw [List.take_length]
      simp only [b_lof_0, t_lof_1, comPs, com0, who0, c1, go_sem, Nat.reduceDiv, Nat.reduceMod, ↓reduceIte, Nat.reduceEqDiff, Nat.reduceBEq, Nat.reduceSub, Nat.reduceLT, Nat.reduceAdd, Nat.reduceLeDiff, reduceCtorEq, Int.reduceEq, Int.reduceNe, Int.reduceLT, Int.reduceLE, Int.reduceToNat]
      refine loop2P [(4234, 74, 2)] [1, 2, 3, 5] [0, 1, 2, 3, 4] (fun j : Nat => ⟨[(1, .ref 0 0 0), (2, .ref 1 0 0), (3, .ref 2 0 0), (5, .int .i64 (j : Int))],
        [.cells 34 [(20, .blob (t.map U)), (1, .sl kq (ps.map idAV)), (1, .str an), (1, .str am), (1, .int .i64 at'), (1, .str az), (1, .str cn), (1, .str cm), (1, .int .i64 ct), (1, .str cz), (1, .sl ke (es.map exV)), (1, .str m)], .cells 28 com0, .cells 28 (comPs t (.own 3 ps.length) ⟨an, am, at', az⟩ ⟨cn, cm, ct, cz⟩ (.own 4 j) m), .row 22 20 ps.length (ps.map idAV), .row 74 2 j ((es.take j).map exV)]⟩)
        (fun j => j ≤ es.length) (fun j => es.length - j) 0 (by rfl) (Nat.zero_le _) ⟨rfl, by rfl⟩ (fun j hj R2 hR2 => ?_)
      by_cases hjl : j < es.length
      · have d1 : decide ((j : Int) < (es.length : Int)) = true := decide_eq_true (by omega)
        have hk : ke = 2 := q5.resolve_right (by intro h; have := congrArg List.length h; simp at this; rw [this] at hjl; simp at hjl)
        subst hk
        have hget := getD_map exV es ([], []) (.agg [(1, (.str [])), (1, (.str []))]) hjl
        have hga : es.getD j ([], []) = es[j] := by simp [List.getD_eq_getElem?_getD, List.getElem?_eq_getElem hjl]
        have hlen : ((es.take j).map exV ++ [AV.agg [(1, AV.str es[j].1), (1, AV.str es[j].2)]]).length = j + 1 := by simp; omega
        have hsn : (es.take j).map exV ++ [AV.agg [(1, AV.str es[j].1), (1, AV.str es[j].2)]] = (es.take (j + 1)).map exV := map_take_succ exV es hjl
        simp only [b_lof_1, comPs, com0, who0, d1, hget, hga, exV, Int.toNat_natCast, List.length_map, go_sem, Nat.reduceDiv, Nat.reduceMod, ↓reduceIte, Nat.reduceEqDiff, Nat.reduceBEq, Nat.reduceSub, Nat.reduceLT, Nat.reduceAdd, Nat.reduceLeDiff, reduceCtorEq, Int.reduceEq, Int.reduceNe, Int.reduceLT, Int.reduceLE, Int.reduceToNat]
        refine ⟨⟨by omega, by omega⟩, ⟨by omega, by omega⟩, ⟨by rw [hlen]; (first | omega | (simp only [lenOk, bytesOk, inI, IntKind.bits, List.length_append, Bs_len, List.length_cons, List.length_nil, List.length_map, List.length_take, List.length_drop, List.length_replicate]; omega)), by rw [hlen]; (first | omega | (simp only [lenOk, bytesOk, inI, IntKind.bits, List.length_append, Bs_len, List.length_cons, List.length_nil, List.length_map, List.length_take, List.length_drop, List.length_replicate]; omega))⟩, ⟨by omega, by omega⟩, hR2 _ (j + 1) hjl (by omega) ?_⟩
        rw [hsn]; rfl
      · have d1 : decide ((j : Int) < (es.length : Int)) = false := decide_eq_false (by omega)
        obtain rfl : j = es.length := by omega
        rw [List.take_length]
        simp only [b_lof_1, t_lof_0, r_lof, comOwn, comPs, com0, who0, d1, go_sem, Nat.reduceDiv, Nat.reduceMod, ↓reduceIte, Nat.reduceEqDiff, Nat.reduceBEq, Nat.reduceSub, Nat.reduceLT, Nat.reduceAdd, Nat.reduceLeDiff, reduceCtorEq, Int.reduceEq, Int.reduceNe, Int.reduceLT, Int.reduceLE, Int.reduceToNat]
  · cases hs
end Go.Proofs.YtlkaaoekbmegkaaGreatDoor
