import Derived.Test.YtlkaaoekbmegkaaGreatDoorChecked
import Derived.Test.YtlkaaoekbmegkaaGreatDoorQAMS
import Derived.Shelf.Strings.Builder1
import Derived.Shelf.Small.Utf8
import Derived.Shelf.Small.Strs
import Derived.Shelf.Strconv.Itoa0
import Derived.Shelf.LaysM
import Derived.Shelf.Strconv.Itoa3
import Derived.Shelf.LaysC
import Derived.Shelf.Strconv.AtoiAll
import Derived.Shelf.Strings.Search1
import Derived.Shelf.Strings.Search3
import Derived.Shelf.Strings.Cut
import Derived.Shelf.GgClosure.StringsRunes
import Derived.Shelf.Strings.Prefix
import Derived.Shelf.Strings.Replace
import Derived.Shelf.Strings.Runes
import Derived.Shelf.Strings.IndexAny
import Derived.Shelf.Strings.IndexAnyAll
import Derived.Test.YtlkaaoekbmegkaaGreatDoorProg
namespace Go.Proofs.YtlkaaoekbmegkaaGreatDoor
set_option linter.all false
open Go.RowKit
def b_cprn_0 : ACode := (.seq (.reg none [⟨(some 46), (.bin .lss (.t 45) (.t 44)), none⟩]) (.seq (.cond (.t 46) .skip (.exit 0)) (.seq (.block 1 (.seq (.reg none [⟨(some 47), (.ia 20 (.blob (List.replicate 20 (.int .u8 0))) (.t 43) (.t 45)), none⟩, ⟨(some 48), (.ld (.arr 20) (.t 47)), none⟩, ⟨(some 10), (.new 29 [(20, (.blob (List.replicate 20 (.int .u8 0))))]), none⟩, ⟨none, (.st (.arr 20) (.t 10) (.t 48)), none⟩]) (.reg none [⟨(some 49), (.ld (.arr 20) (.t 10)), none⟩, ⟨(some 50), (.call 34 [(.t 49)]), none⟩, ⟨(some 51), (.bin .add (.c (.str [112, 97, 114, 101, 110, 116, 32])) (.t 50)), none⟩, ⟨(some 52), (.bin .add (.t 51) (.c (.str [10]))), none⟩, ⟨(some 53), (.call 33 [(.t 8), (.t 52)]), none⟩]))) (.reg none [⟨(some 54), (.bin .add (.t 45) (.c (.int .i64 1))), none⟩, ⟨(some 45), (.mv (.t 54)), none⟩]))))
def b_cprn_1 : ACode := (.seq (.reg none [⟨(some 66), (.bin .lss (.t 65) (.t 64)), none⟩]) (.seq (.cond (.t 66) .skip (.exit 2)) (.seq (.block 3 (.seq (.reg none [⟨(some 67), (.ia 2 (.agg [(1, (.str [])), (1, (.str []))]) (.t 63) (.t 65)), none⟩, ⟨(some 68), (.ld (.st 2) (.t 67)), none⟩, ⟨(some 12), (.new 75 [(1, (.str [])), (1, (.str []))]), none⟩, ⟨none, (.st (.st 2) (.t 12) (.t 68)), none⟩]) (.reg (some [(0, false), (1, false), (2, false), (3, false), (4, false), (5, false), (6, true), (7, true), (8, true)]) [⟨(some 69), (.fa 0 (.t 12)), none⟩, ⟨(some 70), (.ld (.one (.str [])) (.t 69)), none⟩, ⟨(some 71), (.bin .add (.t 70) (.c (.str [32]))), none⟩, ⟨(some 72), (.fa 1 (.t 12)), none⟩, ⟨(some 73), (.ld (.one (.str [])) (.t 72)), none⟩, ⟨(some 74), (.call 35 [(.t 73), (.c (.str [10])), (.c (.str [10, 32]))]), none⟩, ⟨(some 75), (.bin .add (.t 71) (.t 74)), none⟩, ⟨(some 76), (.bin .add (.t 75) (.c (.str [10]))), none⟩, ⟨(some 77), (.call 33 [(.t 8), (.t 76)]), none⟩]))) (.reg none [⟨(some 78), (.bin .add (.t 65) (.c (.int .i64 1))), none⟩, ⟨(some 65), (.mv (.t 78)), none⟩]))))
def t_cprn_0 : ACode := (.seq (.reg none [⟨(some 79), (.fa 30 (.t 1)), none⟩, ⟨(some 80), (.ld (.one (.str [])) (.t 79)), none⟩, ⟨(some 81), (.bin .add (.c (.str [10])) (.t 80)), none⟩, ⟨(some 82), (.call 33 [(.t 8), (.t 81)]), none⟩]) (.seq (.reg none [⟨(some 83), (.call 36 [(.t 8)]), none⟩, ⟨(some 84), (.bytes 5 (.t 83)), none⟩, ⟨(some 2), (.mv (.t 84)), none⟩, ⟨(some 3), (.mv (.c (.int .i64 0))), none⟩]) .ret))
def t_cprn_1 : ACode := (.seq (.reg none [⟨(some 55), (.mv (.t 4)), none⟩, ⟨(some 56), (.bin .add (.c (.str [97, 117, 116, 104, 111, 114, 32])) (.t 55)), none⟩, ⟨(some 57), (.bin .add (.t 56) (.c (.str [10, 99, 111, 109, 109, 105, 116, 116, 101, 114, 32]))), none⟩, ⟨(some 58), (.mv (.t 6)), none⟩, ⟨(some 59), (.bin .add (.t 57) (.t 58)), none⟩, ⟨(some 60), (.bin .add (.t 59) (.c (.str [10]))), none⟩, ⟨(some 61), (.call 33 [(.t 8), (.t 60)]), none⟩]) (.seq (.seq (.reg none [⟨(some 62), (.fa 29 (.t 1)), none⟩, ⟨(some 63), (.ld (.one (.con (.slice none 0 0))) (.t 62)), none⟩, ⟨(some 64), (.len none false (.t 63)), none⟩, ⟨(some 65), (.mv (.c (.int .i64 0))), none⟩]) (.block 2 (.loop b_cprn_1))) t_cprn_0))
def k_cprn_4 : ACode := (.seq (.reg none [⟨(some 8), (.new 80 [(1, (.con (.pointer none))), (1, (.con (.slice none 0 0)))]), none⟩]) (.seq (.reg none [⟨(some 36), (.fa 0 (.t 1)), none⟩, ⟨(some 37), (.ld (.arr 20) (.t 36)), none⟩, ⟨(some 38), (.call 34 [(.t 37)]), none⟩, ⟨(some 39), (.bin .add (.c (.str [116, 114, 101, 101, 32])) (.t 38)), none⟩, ⟨(some 40), (.bin .add (.t 39) (.c (.str [10]))), none⟩, ⟨(some 41), (.call 33 [(.t 8), (.t 40)]), none⟩]) (.seq (.seq (.reg none [⟨(some 42), (.fa 20 (.t 1)), none⟩, ⟨(some 43), (.ld (.one (.con (.slice none 0 0))) (.t 42)), none⟩, ⟨(some 44), (.len none false (.t 43)), none⟩, ⟨(some 45), (.mv (.c (.int .i64 0))), none⟩]) (.block 0 (.loop b_cprn_0))) t_cprn_1)))
def k_cprn_3 : ACode := (.seq (.seq (.reg none [⟨(some 25), (.mv (.t 5)), none⟩, ⟨(some 26), (.bin .neq (.t 25) (.c (.int .i64 0))), none⟩, ⟨(some 27), (.mv (.t 26)), none⟩, ⟨(some 28), (.mv (.t 7)), (some (27, false))⟩, ⟨(some 29), (.bin .neq (.t 28) (.c (.int .i64 0))), (some (27, false))⟩, ⟨(some 30), (.pick (.t 27) (.c (.bool true)) (.t 29)), none⟩, ⟨(some 31), (.mv (.t 30)), none⟩, ⟨(some 32), (.fa 29 (.t 1)), (some (31, false))⟩, ⟨(some 33), (.ld (.one (.con (.slice none 0 0))) (.t 32)), (some (31, false))⟩, ⟨(some 34), (.call 30 [(.t 33), (.c (.fn (.func 31) [] []))]), (some (31, false))⟩, ⟨(some 35), (.pick (.t 31) (.c (.bool true)) (.t 34)), none⟩]) (.cond (.t 35) (.seq (.reg none [⟨(some 2), (.mv (.c (.con (.slice none 0 0)))), none⟩, ⟨(some 3), (.mv (.c (.int .i64 4))), none⟩]) .ret) .skip)) k_cprn_4)
def c_cprn : ACode := (.seq (.reg none [⟨(some 1), (.box 34 31 (.t 0)), none⟩, ⟨(some 2), (.mv (.c (.con (.slice none 0 0)))), none⟩, ⟨(some 3), (.mv (.c (.int .i64 0))), none⟩]) (.seq (.reg none [⟨(some 14), (.fa 21 (.t 1)), none⟩, ⟨(some 15), (.ld (.st 4) (.t 14)), none⟩, ⟨(some 16), (.call 15 [(.t 15)]), none⟩, ⟨(some 13), (.mv (.t 16)), none⟩, ⟨(some 17), (.ext (.t 13) 0), none⟩, ⟨(some 18), (.ext (.t 13) 1), none⟩, ⟨(some 4), (.mv (.t 17)), none⟩, ⟨(some 5), (.mv (.t 18)), none⟩]) (.seq (.reg none [⟨(some 20), (.fa 25 (.t 1)), none⟩, ⟨(some 21), (.ld (.st 4) (.t 20)), none⟩, ⟨(some 22), (.call 15 [(.t 21)]), none⟩, ⟨(some 19), (.mv (.t 22)), none⟩, ⟨(some 23), (.ext (.t 19) 0), none⟩, ⟨(some 24), (.ext (.t 19) 1), none⟩, ⟨(some 6), (.mv (.t 23)), none⟩, ⟨(some 7), (.mv (.t 24)), none⟩]) k_cprn_3)))
def r_cprn : List ARes := [(.t 2), (.t 3)]
theorem s_cprn : slimF Tryz.prog Tryz.f9 = some (c_cprn, r_cprn) := by kernel_rfl
def c_cprn1 : ACode := (.seq (.reg none [⟨(some 1), (.box 75 2 (.t 0)), none⟩, ⟨(some 2), (.mv (.c (.bool false))), none⟩]) (.seq (.reg none [⟨(some 3), (.ld (.st 2) (.t 1)), none⟩, ⟨(some 4), (.call 32 [(.t 3)]), none⟩, ⟨(some 5), (.un .not (.t 4)), none⟩, ⟨(some 2), (.mv (.t 5)), none⟩]) .ret))
def r_cprn1 : List ARes := [(.t 2)]
theorem s_cprn1 : slimF Tryz.prog Tryz.f31 = some (c_cprn1, r_cprn1) := by kernel_rfl
def c_cextra : ACode := (.seq (.reg none [⟨(some 1), (.box 75 2 (.t 0)), none⟩, ⟨(some 2), (.mv (.c (.bool false))), none⟩]) (.seq (.reg none [⟨(some 3), (.fa 0 (.t 1)), none⟩, ⟨(some 4), (.ld (.one (.str [])) (.t 3)), none⟩, ⟨(some 5), (.bin .neq (.t 4) (.c (.str []))), none⟩, ⟨(some 6), (.mv (.t 5)), none⟩, ⟨(some 7), (.fa 0 (.t 1)), (some (6, true))⟩, ⟨(some 8), (.ld (.one (.str [])) (.t 7)), (some (6, true))⟩, ⟨(some 9), (.call 61 [(.t 8), (.c (.str [32, 10]))]), (some (6, true))⟩, ⟨(some 10), (.un .not (.t 9)), (some (6, true))⟩, ⟨(some 11), (.pick (.t 6) (.t 10) (.c (.bool false))), none⟩, ⟨(some 12), (.mv (.t 11)), none⟩, ⟨(some 13), (.buildSl 9 1 [(.c (.str [116, 114, 101, 101])), (.c (.str [112, 97, 114, 101, 110, 116])), (.c (.str [97, 117, 116, 104, 111, 114])), (.c (.str [99, 111, 109, 109, 105, 116, 116, 101, 114]))]), (some (12, true))⟩, ⟨(some 14), (.fa 0 (.t 1)), (some (12, true))⟩, ⟨(some 15), (.ld (.one (.str [])) (.t 14)), (some (12, true))⟩, ⟨(some 16), (.call 62 [(.t 13), (.t 15)]), (some (12, true))⟩, ⟨(some 17), (.un .not (.t 16)), (some (12, true))⟩, ⟨(some 18), (.pick (.t 12) (.t 17) (.c (.bool false))), none⟩, ⟨(some 2), (.mv (.t 18)), none⟩]) .ret))
def r_cextra : List ARes := [(.t 2)]
theorem s_cextra : slimF Tryz.prog Tryz.f32 = some (c_cextra, r_cextra) := by kernel_rfl
def c_cright : ACode := (.seq (.reg none [⟨(some 1), (.box 31 4 (.t 0)), none⟩, ⟨(some 2), (.mv (.c (.bool false))), none⟩]) (.seq (.reg none [⟨(some 3), (.fa 0 (.t 1)), none⟩, ⟨(some 4), (.ld (.one (.str [])) (.t 3)), none⟩, ⟨(some 5), (.fa 1 (.t 1)), none⟩, ⟨(some 6), (.ld (.one (.str [])) (.t 5)), none⟩, ⟨(some 7), (.bin .add (.t 4) (.t 6)), none⟩, ⟨(some 8), (.call 61 [(.t 7), (.c (.str [60, 62, 10]))]), none⟩, ⟨(some 9), (.un .not (.t 8)), none⟩, ⟨(some 10), (.mv (.t 9)), none⟩, ⟨(some 11), (.fa 2 (.t 1)), (some (10, true))⟩, ⟨(some 12), (.ld (.one (.int .i64 0)) (.t 11)), (some (10, true))⟩, ⟨(some 13), (.bin .geq (.t 12) (.c (.int .i64 0))), (some (10, true))⟩, ⟨(some 14), (.pick (.t 10) (.t 13) (.c (.bool false))), none⟩, ⟨(some 15), (.mv (.t 14)), none⟩, ⟨(some 16), (.fa 2 (.t 1)), (some (15, true))⟩, ⟨(some 17), (.ld (.one (.int .i64 0)) (.t 16)), (some (15, true))⟩, ⟨(some 18), (.bin .lss (.t 17) (.c (.int .i64 4611686018427387904))), (some (15, true))⟩, ⟨(some 19), (.pick (.t 15) (.t 18) (.c (.bool false))), none⟩, ⟨(some 20), (.mv (.t 19)), none⟩, ⟨(some 21), (.fa 3 (.t 1)), (some (20, true))⟩, ⟨(some 22), (.ld (.one (.str [])) (.t 21)), (some (20, true))⟩, ⟨(some 23), (.call 67 [(.t 22)]), (some (20, true))⟩, ⟨(some 24), (.pick (.t 20) (.t 23) (.c (.bool false))), none⟩, ⟨(some 2), (.mv (.t 24)), none⟩]) .ret))
def r_cright : List ARes := [(.t 2)]
theorem s_cright : slimF Tryz.prog Tryz.f40 = some (c_cright, r_cright) := by kernel_rfl
def c_czoned : ACode := (.seq (.reg none [⟨(some 2), (.mv (.c (.bool false))), none⟩]) (.seq (.reg none [⟨(some 3), (.mv (.t 0)), none⟩, ⟨(some 4), (.len none true (.t 3)), none⟩, ⟨(some 5), (.bin .eql (.t 4) (.c (.int .i64 5))), none⟩, ⟨(some 6), (.mv (.t 5)), none⟩, ⟨(some 7), (.mv (.t 0)), (some (6, true))⟩, ⟨(some 8), (.idxS (.t 7) (.c (.int .i64 0))), (some (6, true))⟩, ⟨(some 9), (.bin .eql (.t 8) (.c (.int .u8 43))), (some (6, true))⟩, ⟨(some 10), (.mv (.t 9)), (some (6, true))⟩, ⟨(some 11), (.mv (.t 0)), (some (10, false))⟩, ⟨(some 12), (.idxS (.t 11) (.c (.int .i64 0))), (some (10, false))⟩, ⟨(some 13), (.bin .eql (.t 12) (.c (.int .u8 45))), (some (10, false))⟩, ⟨(some 14), (.pick (.t 10) (.c (.bool true)) (.t 13)), (some (6, true))⟩, ⟨(some 15), (.pick (.t 6) (.t 14) (.c (.bool false))), none⟩, ⟨(some 16), (.mv (.t 15)), none⟩, ⟨(some 17), (.mv (.t 0)), (some (16, true))⟩, ⟨(some 18), (.slS (.t 17) (some (.c (.int .i64 1))) none), (some (16, true))⟩, ⟨(some 19), (.call 82 [(.t 18), (.c (.fn (.func 83) [] []))]), (some (16, true))⟩, ⟨(some 20), (.un .not (.t 19)), (some (16, true))⟩, ⟨(some 21), (.pick (.t 16) (.t 20) (.c (.bool false))), none⟩, ⟨(some 2), (.mv (.t 21)), none⟩]) .ret))
def r_czoned : List ARes := [(.t 2)]
theorem s_czoned : slimF Tryz.prog Tryz.f67 = some (c_czoned, r_czoned) := by kernel_rfl
def c_ctext : ACode := (.seq (.reg none [⟨(some 1), (.box 31 4 (.t 0)), none⟩, ⟨(some 2), (.mv (.c (.str []))), none⟩, ⟨(some 3), (.mv (.c (.int .i64 0))), none⟩]) (.seq (.seq (.reg none [⟨(some 4), (.ld (.st 4) (.t 1)), none⟩, ⟨(some 5), (.call 40 [(.t 4)]), none⟩, ⟨(some 6), (.un .not (.t 5)), none⟩]) (.cond (.t 6) (.seq (.reg none [⟨(some 2), (.mv (.c (.str []))), none⟩, ⟨(some 3), (.mv (.c (.int .i64 4))), none⟩]) .ret) .skip)) (.seq (.reg (some [(0, false), (1, false), (2, false), (3, false), (4, false), (5, false), (6, false), (7, false), (8, false), (9, false), (10, false), (11, false), (9, false), (9, false), (14, true), (15, true), (16, true)]) [⟨(some 7), (.fa 0 (.t 1)), none⟩, ⟨(some 8), (.ld (.one (.str [])) (.t 7)), none⟩, ⟨(some 9), (.bin .add (.t 8) (.c (.str [32, 60]))), none⟩, ⟨(some 10), (.fa 1 (.t 1)), none⟩, ⟨(some 11), (.ld (.one (.str [])) (.t 10)), none⟩, ⟨(some 12), (.bin .add (.t 9) (.t 11)), none⟩, ⟨(some 13), (.bin .add (.t 12) (.c (.str [62, 32]))), none⟩, ⟨(some 14), (.fa 2 (.t 1)), none⟩, ⟨(some 15), (.ld (.one (.int .i64 0)) (.t 14)), none⟩, ⟨(some 16), (.call 41 [(.t 15)]), none⟩, ⟨(some 17), (.bin .add (.t 13) (.t 16)), none⟩, ⟨(some 18), (.bin .add (.t 17) (.c (.str [32]))), none⟩, ⟨(some 19), (.fa 3 (.t 1)), none⟩, ⟨(some 20), (.ld (.one (.str [])) (.t 19)), none⟩, ⟨(some 21), (.bin .add (.t 18) (.t 20)), none⟩, ⟨(some 2), (.mv (.t 21)), none⟩, ⟨(some 3), (.mv (.c (.int .i64 0))), none⟩]) .ret)))
def r_ctext : List ARes := [(.t 2), (.t 3)]
theorem s_ctext : slimF Tryz.prog Tryz.f15 = some (c_ctext, r_ctext) := by kernel_rfl
def k_cperson_6 : ACode := (.seq (.seq (.reg none [⟨(some 43), (.mv (.t 6)), none⟩, ⟨(some 44), (.un .not (.t 43)), none⟩, ⟨(some 45), (.mv (.t 44)), none⟩, ⟨(some 46), (.mv (.t 8)), (some (45, false))⟩, ⟨(some 47), (.un .not (.t 46)), (some (45, false))⟩, ⟨(some 48), (.pick (.t 45) (.c (.bool true)) (.t 47)), none⟩, ⟨(some 49), (.mv (.t 48)), none⟩, ⟨(some 50), (.mv (.t 11)), (some (49, false))⟩, ⟨(some 51), (.un .not (.t 50)), (some (49, false))⟩, ⟨(some 52), (.pick (.t 49) (.c (.bool true)) (.t 51)), none⟩, ⟨(some 53), (.mv (.t 52)), none⟩, ⟨(some 54), (.mv (.t 13)), (some (53, false))⟩, ⟨(some 55), (.bin .neq (.t 54) (.c (.int .i64 0))), (some (53, false))⟩, ⟨(some 56), (.pick (.t 53) (.c (.bool true)) (.t 55)), none⟩, ⟨(some 57), (.mv (.t 56)), none⟩, ⟨(some 58), (.ld (.st 4) (.t 14)), (some (57, false))⟩, ⟨(some 59), (.call 40 [(.t 58)]), (some (57, false))⟩, ⟨(some 60), (.un .not (.t 59)), (some (57, false))⟩, ⟨(some 61), (.pick (.t 57) (.c (.bool true)) (.t 60)), none⟩]) (.cond (.t 61) (.seq (.reg none [⟨(some 62), (.build [(1, (.str [])), (1, (.str [])), (1, (.int .i64 0)), (1, (.str []))] []), none⟩, ⟨none, (.st (.st 4) (.t 2) (.t 62)), none⟩, ⟨(some 3), (.mv (.c (.int .i64 4))), none⟩]) .ret) .skip)) (.seq (.reg none [⟨(some 63), (.ld (.st 4) (.t 14)), none⟩, ⟨none, (.st (.st 4) (.t 2) (.t 63)), none⟩, ⟨(some 3), (.mv (.c (.int .i64 0))), none⟩]) .ret))
def c_cperson : ACode := (.seq (.reg none [⟨(some 2), (.new 31 [(1, (.str [])), (1, (.str [])), (1, (.int .i64 0)), (1, (.str []))]), none⟩, ⟨(some 3), (.mv (.c (.int .i64 0))), none⟩]) (.seq (.reg none [⟨(some 16), (.mv (.t 0)), none⟩, ⟨(some 17), (.call 44 [(.t 16), (.c (.str [32, 60]))]), none⟩, ⟨(some 15), (.mv (.t 17)), none⟩, ⟨(some 18), (.ext (.t 15) 0), none⟩, ⟨(some 19), (.ext (.t 15) 1), none⟩, ⟨(some 20), (.ext (.t 15) 2), none⟩, ⟨(some 4), (.mv (.t 18)), none⟩, ⟨(some 5), (.mv (.t 19)), none⟩, ⟨(some 6), (.mv (.t 20)), none⟩]) (.seq (.reg none [⟨(some 22), (.mv (.t 5)), none⟩, ⟨(some 23), (.call 44 [(.t 22), (.c (.str [62, 32]))]), none⟩, ⟨(some 21), (.mv (.t 23)), none⟩, ⟨(some 24), (.ext (.t 21) 0), none⟩, ⟨(some 25), (.ext (.t 21) 1), none⟩, ⟨(some 26), (.ext (.t 21) 2), none⟩, ⟨(some 7), (.mv (.t 24)), none⟩, ⟨(some 5), (.mv (.t 25)), none⟩, ⟨(some 8), (.mv (.t 26)), none⟩]) (.seq (.reg none [⟨(some 28), (.mv (.t 5)), none⟩, ⟨(some 29), (.call 44 [(.t 28), (.c (.str [32]))]), none⟩, ⟨(some 27), (.mv (.t 29)), none⟩, ⟨(some 30), (.ext (.t 27) 0), none⟩, ⟨(some 31), (.ext (.t 27) 1), none⟩, ⟨(some 32), (.ext (.t 27) 2), none⟩, ⟨(some 9), (.mv (.t 30)), none⟩, ⟨(some 10), (.mv (.t 31)), none⟩, ⟨(some 11), (.mv (.t 32)), none⟩]) (.seq (.reg none [⟨(some 34), (.mv (.t 9)), none⟩, ⟨(some 35), (.call 45 [(.t 34)]), none⟩, ⟨(some 33), (.mv (.t 35)), none⟩, ⟨(some 36), (.ext (.t 33) 0), none⟩, ⟨(some 37), (.ext (.t 33) 1), none⟩, ⟨(some 12), (.mv (.t 36)), none⟩, ⟨(some 13), (.mv (.t 37)), none⟩]) (.seq (.reg none [⟨(some 38), (.mv (.t 4)), none⟩, ⟨(some 39), (.mv (.t 7)), none⟩, ⟨(some 40), (.mv (.t 12)), none⟩, ⟨(some 41), (.mv (.t 10)), none⟩, ⟨(some 42), (.build [(1, (.str [])), (1, (.str [])), (1, (.int .i64 0)), (1, (.str []))] [(0, (1, (.t 38))), (1, (1, (.t 39))), (2, (1, (.t 40))), (3, (1, (.t 41)))]), none⟩, ⟨(some 14), (.new 31 [(1, (.str [])), (1, (.str [])), (1, (.int .i64 0)), (1, (.str []))]), none⟩, ⟨none, (.st (.st 4) (.t 14) (.t 42)), none⟩]) k_cperson_6))))))
def r_cperson : List ARes := [(.c 2 (.st 4)), (.t 3)]
theorem s_cperson : slimF Tryz.prog Tryz.f19 = some (c_cperson, r_cperson) := by kernel_rfl
def b_cline_0 : ACode := (.seq (.reg none [⟨(some 23), (.bin .lss (.t 22) (.t 21)), none⟩]) (.seq (.cond (.t 23) .skip (.exit 0)) (.seq (.block 1 (.seq (.reg none [⟨(some 24), (.mv (.t 22)), none⟩, ⟨(some 25), (.ia 1 (.str []) (.t 20) (.t 22)), none⟩, ⟨(some 26), (.ld (.one (.str [])) (.t 25)), none⟩, ⟨(some 9), (.mv (.t 24)), none⟩, ⟨(some 10), (.mv (.t 26)), none⟩]) (.seq (.reg none [⟨(some 27), (.mv (.t 8)), none⟩, ⟨(some 28), (.mv (.t 27)), none⟩, ⟨(some 29), (.mv (.t 6)), (some (28, true))⟩, ⟨(some 30), (.mv (.t 10)), (some (28, true))⟩, ⟨(some 31), (.call 50 [(.t 29), (.t 30)]), (some (28, true))⟩, ⟨(some 32), (.pick (.t 28) (.t 31) (.c (.bool false))), none⟩]) (.cond (.t 32) (.seq (.reg none [⟨(some 33), (.mv (.t 0)), none⟩, ⟨(some 34), (.mv (.t 7)), none⟩, ⟨(some 35), (.nck (.t 33)), none⟩, ⟨(some 36), (.fa 0 (.t 35)), none⟩, ⟨none, (.st (.one (.str [])) (.t 36) (.t 34)), none⟩]) (.seq (.reg none [⟨(some 37), (.mv (.t 6)), none⟩, ⟨(some 38), (.mv (.t 10)), none⟩, ⟨(some 39), (.len none true (.t 38)), none⟩, ⟨(some 40), (.slS (.t 37) (some (.t 39)) none), none⟩, ⟨(some 41), (.mv (.t 9)), none⟩, ⟨(some 4), (.mv (.t 40)), none⟩, ⟨(some 5), (.mv (.t 41)), none⟩]) .ret)) .skip)))) (.reg none [⟨(some 42), (.bin .add (.t 22) (.c (.int .i64 1))), none⟩, ⟨(some 22), (.mv (.t 42)), none⟩]))))
def t_cline_0 : ACode := (.seq (.reg none [⟨(some 4), (.mv (.c (.str []))), none⟩, ⟨(some 5), (.mv (.c (.int .i64 (-1)))), none⟩]) .ret)
def c_cline : ACode := (.seq (.reg none [⟨(some 4), (.mv (.c (.str []))), none⟩, ⟨(some 5), (.mv (.c (.int .i64 0))), none⟩]) (.seq (.reg none [⟨(some 12), (.mv (.t 0)), none⟩, ⟨(some 13), (.nck (.t 12)), none⟩, ⟨(some 14), (.fa 0 (.t 13)), none⟩, ⟨(some 15), (.ld (.one (.str [])) (.t 14)), none⟩, ⟨(some 16), (.call 44 [(.t 15), (.c (.str [10]))]), none⟩, ⟨(some 11), (.mv (.t 16)), none⟩, ⟨(some 17), (.ext (.t 11) 0), none⟩, ⟨(some 18), (.ext (.t 11) 1), none⟩, ⟨(some 19), (.ext (.t 11) 2), none⟩, ⟨(some 6), (.mv (.t 17)), none⟩, ⟨(some 7), (.mv (.t 18)), none⟩, ⟨(some 8), (.mv (.t 19)), none⟩]) (.seq (.seq (.reg none [⟨(some 20), (.mv (.t 1)), none⟩, ⟨(some 21), (.len none false (.t 20)), none⟩, ⟨(some 22), (.mv (.c (.int .i64 0))), none⟩]) (.block 0 (.loop b_cline_0))) t_cline_0)))
def r_cline : List ARes := [(.t 4), (.t 5)]
theorem s_cline : slimF Tryz.prog Tryz.f74 = some (c_cline, r_cline) := by kernel_rfl
def c_cmust : ACode := (.seq (.reg none [⟨(some 4), (.mv (.c (.str []))), none⟩]) (.seq (.reg none [⟨(some 8), (.mv (.t 0)), none⟩, ⟨(some 9), (.mv (.t 1)), none⟩, ⟨(some 10), (.buildSl 9 1 [(.t 9)]), none⟩, ⟨(some 11), (.call 74 [(.t 8), (.t 10)]), none⟩, ⟨(some 7), (.mv (.t 11)), none⟩, ⟨(some 12), (.ext (.t 7) 0), none⟩, ⟨(some 13), (.ext (.t 7) 1), none⟩, ⟨(some 5), (.mv (.t 12)), none⟩, ⟨(some 6), (.mv (.t 13)), none⟩]) (.seq (.seq (.reg none [⟨(some 14), (.mv (.t 6)), none⟩, ⟨(some 15), (.bin .lss (.t 14) (.c (.int .i64 0))), none⟩]) (.cond (.t 15) (.reg none [⟨(some 16), (.mv (.t 0)), none⟩, ⟨(some 17), (.nck (.t 16)), none⟩, ⟨(some 18), (.fa 1 (.t 17)), none⟩, ⟨none, (.st (.one (.bool false)) (.t 18) (.c (.bool true))), none⟩]) .skip)) (.seq (.reg none [⟨(some 19), (.mv (.t 5)), none⟩, ⟨(some 4), (.mv (.t 19)), none⟩]) .ret))))
def r_cmust : List ARes := [(.t 4)]
theorem s_cmust : slimF Tryz.prog Tryz.f53 = some (c_cmust, r_cmust) := by kernel_rfl
def k_cid_2 : ACode := (.seq (.reg none [⟨(some 16), (.mv (.t 0)), none⟩, ⟨(some 17), (.mv (.t 0)), none⟩, ⟨(some 18), (.nck (.t 17)), none⟩, ⟨(some 19), (.fa 0 (.t 18)), none⟩, ⟨(some 20), (.fa 1 (.t 19)), none⟩, ⟨(some 21), (.ld (.one (.bool false)) (.t 20)), none⟩, ⟨(some 22), (.mv (.t 21)), none⟩, ⟨(some 23), (.mv (.t 6)), (some (22, false))⟩, ⟨(some 24), (.bin .neq (.t 23) (.c (.int .i64 0))), (some (22, false))⟩, ⟨(some 25), (.pick (.t 22) (.c (.bool true)) (.t 24)), none⟩, ⟨(some 26), (.nck (.t 16)), none⟩, ⟨(some 27), (.fa 0 (.t 26)), none⟩, ⟨(some 28), (.fa 1 (.t 27)), none⟩, ⟨none, (.st (.one (.bool false)) (.t 28) (.t 25)), none⟩]) (.seq (.reg none [⟨(some 29), (.ld (.arr 20) (.t 5)), none⟩, ⟨none, (.st (.arr 20) (.t 4) (.t 29)), none⟩]) .ret))
def c_cid : ACode := (.seq (.reg none [⟨(some 4), (.new 29 [(20, (.blob (List.replicate 20 (.int .u8 0))))]), none⟩]) (.seq (.reg none [⟨(some 8), (.mv (.t 0)), none⟩, ⟨(some 9), (.nck (.t 8)), none⟩, ⟨(some 10), (.fa 0 (.t 9)), none⟩, ⟨(some 11), (.mv (.t 1)), none⟩, ⟨(some 12), (.call 53 [(.t 10), (.t 11)]), none⟩, ⟨(some 13), (.call 72 [(.t 12)]), none⟩, ⟨(some 7), (.mv (.t 13)), none⟩, ⟨(some 14), (.ext (.t 7) 0), none⟩, ⟨(some 15), (.ext (.t 7) 1), none⟩, ⟨(some 5), (.new 29 [(20, (.blob (List.replicate 20 (.int .u8 0))))]), none⟩, ⟨none, (.st (.arr 20) (.t 5) (.t 14)), none⟩, ⟨(some 6), (.mv (.t 15)), none⟩]) k_cid_2))
def r_cid : List ARes := [(.c 4 (.arr 20))]
theorem s_cid : slimF Tryz.prog Tryz.f49 = some (c_cid, r_cid) := by kernel_rfl
def k_cwho_2 : ACode := (.seq (.reg none [⟨(some 16), (.mv (.t 0)), none⟩, ⟨(some 17), (.mv (.t 0)), none⟩, ⟨(some 18), (.nck (.t 17)), none⟩, ⟨(some 19), (.fa 0 (.t 18)), none⟩, ⟨(some 20), (.fa 1 (.t 19)), none⟩, ⟨(some 21), (.ld (.one (.bool false)) (.t 20)), none⟩, ⟨(some 22), (.mv (.t 21)), none⟩, ⟨(some 23), (.mv (.t 6)), (some (22, false))⟩, ⟨(some 24), (.bin .neq (.t 23) (.c (.int .i64 0))), (some (22, false))⟩, ⟨(some 25), (.pick (.t 22) (.c (.bool true)) (.t 24)), none⟩, ⟨(some 26), (.nck (.t 16)), none⟩, ⟨(some 27), (.fa 0 (.t 26)), none⟩, ⟨(some 28), (.fa 1 (.t 27)), none⟩, ⟨none, (.st (.one (.bool false)) (.t 28) (.t 25)), none⟩]) (.seq (.reg none [⟨(some 29), (.ld (.st 4) (.t 5)), none⟩, ⟨none, (.st (.st 4) (.t 4) (.t 29)), none⟩]) .ret))
def c_cwho : ACode := (.seq (.reg none [⟨(some 4), (.new 31 [(1, (.str [])), (1, (.str [])), (1, (.int .i64 0)), (1, (.str []))]), none⟩]) (.seq (.reg none [⟨(some 8), (.mv (.t 0)), none⟩, ⟨(some 9), (.nck (.t 8)), none⟩, ⟨(some 10), (.fa 0 (.t 9)), none⟩, ⟨(some 11), (.mv (.t 1)), none⟩, ⟨(some 12), (.call 53 [(.t 10), (.t 11)]), none⟩, ⟨(some 13), (.call 19 [(.t 12)]), none⟩, ⟨(some 7), (.mv (.t 13)), none⟩, ⟨(some 14), (.ext (.t 7) 0), none⟩, ⟨(some 15), (.ext (.t 7) 1), none⟩, ⟨(some 5), (.new 31 [(1, (.str [])), (1, (.str [])), (1, (.int .i64 0)), (1, (.str []))]), none⟩, ⟨none, (.st (.st 4) (.t 5) (.t 14)), none⟩, ⟨(some 6), (.mv (.t 15)), none⟩]) k_cwho_2))
def r_cwho : List ARes := [(.c 4 (.st 4))]
theorem s_cwho : slimF Tryz.prog Tryz.f51 = some (c_cwho, r_cwho) := by kernel_rfl
def c_cfe : ACode := (.seq (.reg none [⟨(some 4), (.mv (.c (.bool false))), none⟩]) (.seq (.reg none [⟨(some 5), (.mv (.t 0)), none⟩, ⟨(some 6), (.mv (.t 1)), none⟩, ⟨(some 7), (.call 60 [(.t 5), (.t 6)]), none⟩, ⟨(some 8), (.bin .geq (.t 7) (.c (.int .i64 0))), none⟩, ⟨(some 4), (.mv (.t 8)), none⟩]) .ret))
def r_cfe : List ARes := [(.t 4)]
theorem s_cfe : slimF Tryz.prog Tryz.f30 = some (c_cfe, r_cfe) := by kernel_rfl
def b_ife_0 : ACode := (.seq (.reg none [⟨(some 9), (.bin .lss (.t 8) (.t 7)), none⟩]) (.seq (.cond (.t 9) .skip (.exit 0)) (.seq (.block 1 (.seq (.reg none [⟨(some 10), (.mv (.t 8)), none⟩, ⟨(some 5), (.mv (.t 10)), none⟩]) (.seq (.reg none [⟨(some 11), (.mv (.t 1)), none⟩, ⟨(some 12), (.mv (.t 0)), none⟩, ⟨(some 13), (.mv (.t 5)), none⟩, ⟨(some 14), (.ia 2 (.agg [(1, (.str [])), (1, (.str []))]) (.t 12) (.t 13)), none⟩, ⟨(some 15), (.ld (.st 2) (.t 14)), none⟩, ⟨(some 16), (.callv (.t 11) [(.t 15)]), none⟩]) (.cond (.t 16) (.seq (.reg none [⟨(some 17), (.mv (.t 5)), none⟩, ⟨(some 4), (.mv (.t 17)), none⟩]) .ret) .skip)))) (.reg none [⟨(some 18), (.bin .add (.t 8) (.c (.int .i64 1))), none⟩, ⟨(some 8), (.mv (.t 18)), none⟩]))))
def t_ife_0 : ACode := (.seq (.reg none [⟨(some 4), (.mv (.c (.int .i64 (-1)))), none⟩]) .ret)
def c_ife : ACode := (.seq (.reg none [⟨(some 4), (.mv (.c (.int .i64 0))), none⟩]) (.seq (.seq (.reg none [⟨(some 6), (.mv (.t 0)), none⟩, ⟨(some 7), (.len none false (.t 6)), none⟩, ⟨(some 8), (.mv (.c (.int .i64 0))), none⟩]) (.block 0 (.loop b_ife_0))) t_ife_0))
def r_ife : List ARes := [(.t 4)]
theorem s_ife : slimF Tryz.prog Tryz.f60 = some (c_ife, r_ife) := by kernel_rfl
def c_cons : ACode := (.seq (.reg none [⟨(some 4), (.mv (.c (.bool false))), none⟩]) (.seq (.reg none [⟨(some 5), (.mv (.t 0)), none⟩, ⟨(some 6), (.mv (.t 1)), none⟩, ⟨(some 7), (.call 77 [(.t 5), (.t 6)]), none⟩, ⟨(some 8), (.bin .geq (.t 7) (.c (.int .i64 0))), none⟩, ⟨(some 4), (.mv (.t 8)), none⟩]) .ret))
def r_cons : List ARes := [(.t 4)]
theorem s_cons : slimF Tryz.prog Tryz.f62 = some (c_cons, r_cons) := by kernel_rfl
def b_ixs_0 : ACode := (.seq (.reg none [⟨(some 9), (.bin .lss (.t 8) (.t 7)), none⟩]) (.seq (.cond (.t 9) .skip (.exit 0)) (.seq (.block 1 (.seq (.reg none [⟨(some 10), (.mv (.t 8)), none⟩, ⟨(some 5), (.mv (.t 10)), none⟩]) (.seq (.reg none [⟨(some 11), (.mv (.t 1)), none⟩, ⟨(some 12), (.mv (.t 0)), none⟩, ⟨(some 13), (.mv (.t 5)), none⟩, ⟨(some 14), (.ia 1 (.str []) (.t 12) (.t 13)), none⟩, ⟨(some 15), (.ld (.one (.str [])) (.t 14)), none⟩, ⟨(some 16), (.bin .eql (.t 11) (.t 15)), none⟩]) (.cond (.t 16) (.seq (.reg none [⟨(some 17), (.mv (.t 5)), none⟩, ⟨(some 4), (.mv (.t 17)), none⟩]) .ret) .skip)))) (.reg none [⟨(some 18), (.bin .add (.t 8) (.c (.int .i64 1))), none⟩, ⟨(some 8), (.mv (.t 18)), none⟩]))))
def t_ixs_0 : ACode := (.seq (.reg none [⟨(some 4), (.mv (.c (.int .i64 (-1)))), none⟩]) .ret)
def c_ixs : ACode := (.seq (.reg none [⟨(some 4), (.mv (.c (.int .i64 0))), none⟩]) (.seq (.seq (.reg none [⟨(some 6), (.mv (.t 0)), none⟩, ⟨(some 7), (.len none false (.t 6)), none⟩, ⟨(some 8), (.mv (.c (.int .i64 0))), none⟩]) (.block 0 (.loop b_ixs_0))) t_ixs_0))
def r_ixs : List ARes := [(.t 4)]
theorem s_ixs : slimF Tryz.prog Tryz.f77 = some (c_ixs, r_ixs) := by kernel_rfl
def c_scany : ACode := (.seq (.reg none [⟨(some 4), (.mv (.c (.bool false))), none⟩]) (.seq (.reg none [⟨(some 5), (.mv (.t 0)), none⟩, ⟨(some 6), (.mv (.t 1)), none⟩, ⟨(some 7), (.call 76 [(.t 5), (.t 6)]), none⟩, ⟨(some 8), (.bin .geq (.t 7) (.c (.int .i64 0))), none⟩, ⟨(some 4), (.mv (.t 8)), none⟩]) .ret))
def r_scany : List ARes := [(.t 4)]
theorem s_scany : slimF Tryz.prog Tryz.f61 = some (c_scany, r_scany) := by kernel_rfl
end Go.Proofs.YtlkaaoekbmegkaaGreatDoor
namespace Go.Proofs.YtlkaaoekbmegkaaGreatDoor
set_option linter.all false
open Go.Shelf
def Tryz.lays169_ren : Go.Shelf.Ren := ⟨fun | 169 => 36 | n => n, fun | 70 => 78 | 9 => 9 | 0 => 0 | 72 => 80 | 37 => 37 | 127 => 121 | 3 => 3 | 5 => 5 | n => n, fun | n => n⟩
theorem Tryz.lays169 : Go.Proofs.Lays.n169 Tryz.prog Tryz.lays169_ren := {
  mixed := by kernel_rfl
  f169 := Tryz.func36.trans (congrArg some (by kernel_rfl))
  t0 := Tryz.underlying0
  a0 := Tryz.isAgg0
  z0 := Tryz.sizeOf0
  v0 := Tryz.zeroValue0
  t3 := Tryz.underlying3
  a3 := Tryz.isAgg3
  z3 := Tryz.sizeOf3
  v3 := Tryz.zeroValue3
  t9 := Tryz.underlying9
  a9 := Tryz.isAgg9
  z9 := Tryz.sizeOf9
  v9 := Tryz.zeroValue9
  t37 := Tryz.underlying37
  a37 := Tryz.isAgg37
  z37 := Tryz.sizeOf37
  v37 := Tryz.zeroValue37
  t70 := Tryz.underlying78
  a70 := Tryz.isAgg78
  z70 := Tryz.sizeOf78
  v70 := Tryz.zeroValue78
  t72 := Tryz.underlying80
  a72 := Tryz.isAgg80
  z72 := Tryz.sizeOf80
  v72 := Tryz.zeroValue80
  t127 := Tryz.underlying121
  a127 := Tryz.isAgg121
  z127 := Tryz.sizeOf121
  v127 := Tryz.zeroValue121 }
theorem Tryz.Builder_Extra_169 : Builder.Extra Tryz.prog Tryz.lays169_ren := {
  sizeBuilder := by kernel_rfl
  liesBuilder := by kernel_rfl
  t5 := Tryz.underlying5
  a5 := Tryz.isAgg5
  z5 := Tryz.sizeOf5
  v5 := Tryz.zeroValue5
  infoByte := by kernel_rfl
  cellsByte := by kernel_rfl
  sizeByte := by kernel_rfl
  neB5 := by decide }
open Go.RowKit in
theorem Tryz.Builder_String_any (B b : Nat) (l : List UInt8) (w : World) (h : Lib.IsBuilder 80 5 B b (Lib.byteCells l) w) (hBw : B ≤ w.heap.size) :
    Calls Tryz.prog 36 #[.pointer (some ⟨b, 0, none⟩)] w fun e w' => e = .returned (.string ⟨l.toArray⟩) ∧ Below B w w' := Any.Builder_String_any Tryz.lays169 Tryz.Builder_Extra_169 B b l w h hBw
def Tryz.lays119_ren : Go.Shelf.Ren := ⟨fun | 119 => 108 | n => n, fun | 21 => 21 | 4 => 4 | n => n, fun | n => n⟩
theorem Tryz.lays119 : Go.Proofs.Lays.n119 Tryz.prog Tryz.lays119_ren := {
  mixed := by kernel_rfl
  f119 := Tryz.func108.trans (congrArg some (by kernel_rfl))
  t4 := Tryz.underlying4
  a4 := Tryz.isAgg4
  z4 := Tryz.sizeOf4
  v4 := Tryz.zeroValue4
  t21 := Tryz.underlying21
  a21 := Tryz.isAgg21
  z21 := Tryz.sizeOf21
  v21 := Tryz.zeroValue21 }
theorem Tryz.utf8_ValidRune (r : Int) (w : World) :
    Calls Tryz.prog 108 #[.int .i32 r] w fun e w' => e = .returned (.bool (Lib.validRune r)) ∧ w' = w := Any.utf8_ValidRune Tryz.lays119 r w
def Tryz.lays137_ren : Go.Shelf.Ren := ⟨fun | 137 => 88 | 217 => 99 | 266 => 115 | n => n, fun | 9 => 9 | 5 => 5 | 3 => 3 | n => n, fun | n => n⟩
theorem Tryz.lays137 : Go.Proofs.Lays.n137 Tryz.prog Tryz.lays137_ren := {
  mixed := by kernel_rfl
  f137 := Tryz.func88.trans (congrArg some (by kernel_rfl))
  f217 := Tryz.func99.trans (congrArg some (by kernel_rfl))
  f266 := Tryz.func115.trans (congrArg some (by kernel_rfl))
  t3 := Tryz.underlying3
  a3 := Tryz.isAgg3
  z3 := Tryz.sizeOf3
  v3 := Tryz.zeroValue3
  t5 := Tryz.underlying5
  a5 := Tryz.isAgg5
  z5 := Tryz.sizeOf5
  v5 := Tryz.zeroValue5
  t9 := Tryz.underlying9
  a9 := Tryz.isAgg9
  z9 := Tryz.sizeOf9
  v9 := Tryz.zeroValue9 }
open Go.RowKit in
theorem Tryz.strings_IndexByte (s : ByteArray) (c : Int) (w : World) :
    Calls Tryz.prog 88 #[.string s, .int .u8 c] w fun e w' => e = .returned (.int .i64 (Lib.indexByte s.data.toList c.toNat.toUInt8)) ∧ w' = w := Any.strings_IndexByte Tryz.lays137 s c w
def Tryz.lays145_ren : Go.Shelf.Ren := ⟨fun | 145 => 44 | 220 => 69 | 219 => 85 | 217 => 99 | 225 => 100 | 224 => 101 | 267 => 102 | 266 => 115 | 314 => 116 | n => n, fun | 9 => 9 | 4 => 4 | 59 => 94 | 3 => 3 | 5 => 5 | 46 => 119 | 146 => 171 | 51 => 170 | n => n, fun | 1 => 0 | n => n⟩
theorem Tryz.lays145 : Go.Proofs.Lays.n145 Tryz.prog Tryz.lays145_ren := {
  mixed := by kernel_rfl
  f145 := Tryz.func44.trans (congrArg some (by kernel_rfl))
  f217 := Tryz.func99.trans (congrArg some (by kernel_rfl))
  f219 := Tryz.func85.trans (congrArg some (by kernel_rfl))
  f220 := Tryz.func69.trans (congrArg some (by kernel_rfl))
  f224 := Tryz.func101.trans (congrArg some (by kernel_rfl))
  f225 := Tryz.func100.trans (congrArg some (by kernel_rfl))
  f266 := Tryz.func115.trans (congrArg some (by kernel_rfl))
  f267 := Tryz.func102.trans (congrArg some (by kernel_rfl))
  f314 := Tryz.func116.trans (congrArg some (by kernel_rfl))
  t3 := Tryz.underlying3
  a3 := Tryz.isAgg3
  z3 := Tryz.sizeOf3
  v3 := Tryz.zeroValue3
  t4 := Tryz.underlying4
  a4 := Tryz.isAgg4
  z4 := Tryz.sizeOf4
  v4 := Tryz.zeroValue4
  t5 := Tryz.underlying5
  a5 := Tryz.isAgg5
  z5 := Tryz.sizeOf5
  v5 := Tryz.zeroValue5
  t9 := Tryz.underlying9
  a9 := Tryz.isAgg9
  z9 := Tryz.sizeOf9
  v9 := Tryz.zeroValue9
  t46 := Tryz.underlying119
  a46 := Tryz.isAgg119
  z46 := Tryz.sizeOf119
  v46 := Tryz.zeroValue119
  t51 := Tryz.underlying170
  a51 := Tryz.isAgg170
  z51 := Tryz.sizeOf170
  v51 := Tryz.zeroValue170
  t59 := Tryz.underlying94
  a59 := Tryz.isAgg94
  z59 := Tryz.sizeOf94
  v59 := Tryz.zeroValue94
  t146 := Tryz.underlying171
  a146 := Tryz.isAgg171
  z146 := Tryz.sizeOf171
  v146 := Tryz.zeroValue171
  g1 := by kernel_rfl }
open Go.RowKit Go.Lib in
theorem Tryz.strings_Cut (s sep : ByteArray) (m : Int) (w : World) (hs : s.size < 4294967281) (hm : w.cell? ⟨0, 0, none⟩ = some (.int .i64 m)) :
    Calls Tryz.prog 44 #[.string s, .string sep] w fun e w' => e = .returned (.tuple #[.string ⟨(Lib.cut s.data.toList sep.data.toList).1.toArray⟩, .string ⟨(Lib.cut s.data.toList sep.data.toList).2.1.toArray⟩, .bool (Lib.cut s.data.toList sep.data.toList).2.2]) ∧ ∃ n, w' = w.drewN n := Any.strings_Cut Tryz.lays145 s sep m w hs hm
def Tryz.lays99_ren : Go.Shelf.Ren := ⟨fun | 99 => 50 | 206 => 73 | n => n, fun | 9 => 9 | 4 => 4 | 3 => 3 | n => n, fun | n => n⟩
theorem Tryz.lays99 : Go.Proofs.Lays.n99 Tryz.prog Tryz.lays99_ren := {
  mixed := by kernel_rfl
  f99 := Tryz.func50.trans (congrArg some (by kernel_rfl))
  f206 := Tryz.func73.trans (congrArg some (by kernel_rfl))
  t3 := Tryz.underlying3
  a3 := Tryz.isAgg3
  z3 := Tryz.sizeOf3
  v3 := Tryz.zeroValue3
  t4 := Tryz.underlying4
  a4 := Tryz.isAgg4
  z4 := Tryz.sizeOf4
  v4 := Tryz.zeroValue4
  t9 := Tryz.underlying9
  a9 := Tryz.isAgg9
  z9 := Tryz.sizeOf9
  v9 := Tryz.zeroValue9 }
open Go.RowKit Go.Lib in
theorem Tryz.strings_HasPrefix (s p : ByteArray) (w : World) :
    Calls Tryz.prog 50 #[.string s, .string p] w fun e w' => e = .returned (.bool (Lib.hasPrefix s.data.toList p.data.toList)) ∧ w' = w := Any.strings_HasPrefix Tryz.lays99 s p w
def Tryz.laysGw17_ren : Go.Shelf.Ren := ⟨fun | 17 => 82 | 15 => 97 | 20 => 110 | n => n, fun | 9 => 9 | 23 => 139 | 4 => 4 | 3 => 3 | 0 => 0 | 21 => 21 | n => n, fun | n => n⟩
theorem Tryz.laysGw17 : Go.Proofs.LaysGw.n17 Tryz.prog Tryz.laysGw17_ren := {
  mixed := by kernel_rfl
  f15 := Tryz.func97.trans (congrArg some (by kernel_rfl))
  f17 := Tryz.func82.trans (congrArg some (by kernel_rfl))
  f20 := Tryz.func110.trans (congrArg some (by kernel_rfl))
  t0 := Tryz.underlying0
  a0 := Tryz.isAgg0
  z0 := Tryz.sizeOf0
  v0 := Tryz.zeroValue0
  i0 := by kernel_rfl
  t3 := Tryz.underlying3
  a3 := Tryz.isAgg3
  z3 := Tryz.sizeOf3
  v3 := Tryz.zeroValue3
  i3 := by kernel_rfl
  t4 := Tryz.underlying4
  a4 := Tryz.isAgg4
  z4 := Tryz.sizeOf4
  v4 := Tryz.zeroValue4
  i4 := by kernel_rfl
  t9 := Tryz.underlying9
  a9 := Tryz.isAgg9
  z9 := Tryz.sizeOf9
  v9 := Tryz.zeroValue9
  i9 := by kernel_rfl
  t21 := Tryz.underlying21
  a21 := Tryz.isAgg21
  z21 := Tryz.sizeOf21
  v21 := Tryz.zeroValue21
  i21 := by kernel_rfl
  t23 := Tryz.underlying139
  a23 := Tryz.isAgg139
  z23 := Tryz.sizeOf139
  v23 := Tryz.zeroValue139
  i23 := by kernel_rfl }
open Go.RowKit Go.Lib in
theorem Tryz.strings_ContainsFunc_runes (g : Nat) (lb : Array Value) (eg : ∀ args w, (callFunc g args).run Tryz.prog w = .ok (.enter g args) w) (p : Nat → Bool) (s : ByteArray) (w : World) (hp : PredAtRunes Tryz.prog g lb p w) :
    Calls Tryz.prog 82 #[.string s, .func (.func g) #[] lb] w fun e w' => e = .returned (.bool (decide (0 ≤ Lib.idxFunc p true s))) ∧ Below w.heap.size w w' := Any.strings_ContainsFunc_runes Tryz.laysGw17 g lb eg p s w hp
def Tryz.lays155_ren : Go.Shelf.Ren := ⟨fun | 155 => 35 | 154 => 65 | 138 => 79 | 165 => 80 | 143 => 75 | 166 => 33 | 197 => 81 | 169 => 36 | 195 => 93 | 218 => 94 | 240 => 63 | 241 => 95 | 219 => 85 | 260 => 96 | 276 => 78 | 277 => 109 | 217 => 99 | 225 => 100 | 224 => 101 | 267 => 102 | 266 => 115 | 314 => 116 | n => n, fun | 9 => 9 | 3 => 3 | 4 => 4 | 72 => 80 | 0 => 0 | 76 => 83 | 105 => 136 | 21 => 21 | 5 => 5 | 70 => 78 | 20 => 20 | 37 => 37 | 75 => 82 | 127 => 121 | 164 => 133 | 46 => 119 | 119 => 159 | 139 => 162 | 138 => 161 | 146 => 171 | 51 => 170 | 80 => 87 | n => n, fun | 1 => 0 | 3 => 1 | 4 => 2 | n => n⟩
theorem Tryz.lays155 : Go.Proofs.Lays.n155 Tryz.prog Tryz.lays155_ren := {
  mixed := by kernel_rfl
  f138 := Tryz.func79.trans (congrArg some (by kernel_rfl))
  f143 := Tryz.func75.trans (congrArg some (by kernel_rfl))
  f154 := Tryz.func65.trans (congrArg some (by kernel_rfl))
  f155 := Tryz.func35.trans (congrArg some (by kernel_rfl))
  f165 := Tryz.func80.trans (congrArg some (by kernel_rfl))
  f166 := Tryz.func33.trans (congrArg some (by kernel_rfl))
  f169 := Tryz.func36.trans (congrArg some (by kernel_rfl))
  f195 := Tryz.func93.trans (congrArg some (by kernel_rfl))
  f197 := Tryz.func81.trans (congrArg some (by kernel_rfl))
  f217 := Tryz.func99.trans (congrArg some (by kernel_rfl))
  f218 := Tryz.func94.trans (congrArg some (by kernel_rfl))
  f219 := Tryz.func85.trans (congrArg some (by kernel_rfl))
  f224 := Tryz.func101.trans (congrArg some (by kernel_rfl))
  f225 := Tryz.func100.trans (congrArg some (by kernel_rfl))
  f240 := Tryz.func63.trans (congrArg some (by kernel_rfl))
  f241 := Tryz.func95.trans (congrArg some (by kernel_rfl))
  f260 := Tryz.func96.trans (congrArg some (by kernel_rfl))
  f266 := Tryz.func115.trans (congrArg some (by kernel_rfl))
  f267 := Tryz.func102.trans (congrArg some (by kernel_rfl))
  f276 := Tryz.func78.trans (congrArg some (by kernel_rfl))
  f277 := Tryz.func109.trans (congrArg some (by kernel_rfl))
  f314 := Tryz.func116.trans (congrArg some (by kernel_rfl))
  t0 := Tryz.underlying0
  a0 := Tryz.isAgg0
  z0 := Tryz.sizeOf0
  v0 := Tryz.zeroValue0
  t3 := Tryz.underlying3
  a3 := Tryz.isAgg3
  z3 := Tryz.sizeOf3
  v3 := Tryz.zeroValue3
  t4 := Tryz.underlying4
  a4 := Tryz.isAgg4
  z4 := Tryz.sizeOf4
  v4 := Tryz.zeroValue4
  t5 := Tryz.underlying5
  a5 := Tryz.isAgg5
  z5 := Tryz.sizeOf5
  v5 := Tryz.zeroValue5
  t9 := Tryz.underlying9
  a9 := Tryz.isAgg9
  z9 := Tryz.sizeOf9
  v9 := Tryz.zeroValue9
  t20 := Tryz.underlying20
  a20 := Tryz.isAgg20
  z20 := Tryz.sizeOf20
  v20 := Tryz.zeroValue20
  t21 := Tryz.underlying21
  a21 := Tryz.isAgg21
  z21 := Tryz.sizeOf21
  v21 := Tryz.zeroValue21
  t37 := Tryz.underlying37
  a37 := Tryz.isAgg37
  z37 := Tryz.sizeOf37
  v37 := Tryz.zeroValue37
  t46 := Tryz.underlying119
  a46 := Tryz.isAgg119
  z46 := Tryz.sizeOf119
  v46 := Tryz.zeroValue119
  t51 := Tryz.underlying170
  a51 := Tryz.isAgg170
  z51 := Tryz.sizeOf170
  v51 := Tryz.zeroValue170
  t70 := Tryz.underlying78
  a70 := Tryz.isAgg78
  z70 := Tryz.sizeOf78
  v70 := Tryz.zeroValue78
  t72 := Tryz.underlying80
  a72 := Tryz.isAgg80
  z72 := Tryz.sizeOf80
  v72 := Tryz.zeroValue80
  t75 := Tryz.underlying82
  a75 := Tryz.isAgg82
  z75 := Tryz.sizeOf82
  v75 := Tryz.zeroValue82
  t76 := Tryz.underlying83
  a76 := Tryz.isAgg83
  z76 := Tryz.sizeOf83
  v76 := Tryz.zeroValue83
  t105 := Tryz.underlying136
  a105 := Tryz.isAgg136
  z105 := Tryz.sizeOf136
  v105 := Tryz.zeroValue136
  t119 := Tryz.underlying159
  a119 := Tryz.isAgg159
  z119 := Tryz.sizeOf159
  t127 := Tryz.underlying121
  a127 := Tryz.isAgg121
  z127 := Tryz.sizeOf121
  v127 := Tryz.zeroValue121
  t138 := Tryz.underlying161
  a138 := Tryz.isAgg161
  z138 := Tryz.sizeOf161
  v138 := Tryz.zeroValue161
  t139 := Tryz.underlying162
  a139 := Tryz.isAgg162
  z139 := Tryz.sizeOf162
  v139 := Tryz.zeroValue162
  t146 := Tryz.underlying171
  a146 := Tryz.isAgg171
  z146 := Tryz.sizeOf171
  v146 := Tryz.zeroValue171
  t164 := Tryz.underlying133
  a164 := Tryz.isAgg133
  z164 := Tryz.sizeOf133
  v164 := Tryz.zeroValue133
  g1 := by kernel_rfl
  g3 := by kernel_rfl
  g4 := by kernel_rfl }
theorem Tryz.Builder_Extra_155 : Builder.Extra Tryz.prog Tryz.lays155_ren := {
  sizeBuilder := by kernel_rfl
  liesBuilder := by kernel_rfl
  t5 := Tryz.underlying5
  a5 := Tryz.isAgg5
  z5 := Tryz.sizeOf5
  v5 := Tryz.zeroValue5
  infoByte := by kernel_rfl
  cellsByte := by kernel_rfl
  sizeByte := by kernel_rfl
  neB5 := by decide }
open Go.RowKit Go.Lib in
theorem Tryz.strings_ReplaceAll (s old new : ByteArray) (m : Int) (w : World) (hs : s.size < 4294967281) (hm : w.cell? ⟨0, 0, none⟩ = some (.int .i64 m)) (h1 : 1 ≤ old.size) (hlen : s.size + Lib.countB s old * new.size ≤ 140737488355328) :
    Calls Tryz.prog 35 #[.string s, .string old, .string new] w fun e w' =>
      e = .returned (.string ⟨(Lib.replaceAll s.data.toList old.data.toList new.data.toList).toArray⟩) ∧ Below w.heap.size w w' := Any.strings_ReplaceAll Tryz.lays155 Tryz.Builder_Extra_155 s old new m w hs hm h1 hlen
def Tryz.lays152_ren : Go.Shelf.Ren := ⟨fun | 152 => 89 | 137 => 88 | 119 => 108 | 224 => 101 | 225 => 100 | 217 => 99 | 266 => 115 | n => n, fun | 9 => 9 | 21 => 21 | 3 => 3 | 4 => 4 | 5 => 5 | 0 => 0 | 46 => 119 | n => n, fun | n => n⟩
theorem Tryz.lays152 : Go.Proofs.Lays.n152 Tryz.prog Tryz.lays152_ren := {
  mixed := by kernel_rfl
  f119 := Tryz.func108.trans (congrArg some (by kernel_rfl))
  f137 := Tryz.func88.trans (congrArg some (by kernel_rfl))
  f152 := Tryz.func89.trans (congrArg some (by kernel_rfl))
  f217 := Tryz.func99.trans (congrArg some (by kernel_rfl))
  f224 := Tryz.func101.trans (congrArg some (by kernel_rfl))
  f225 := Tryz.func100.trans (congrArg some (by kernel_rfl))
  f266 := Tryz.func115.trans (congrArg some (by kernel_rfl))
  t0 := Tryz.underlying0
  a0 := Tryz.isAgg0
  z0 := Tryz.sizeOf0
  v0 := Tryz.zeroValue0
  t3 := Tryz.underlying3
  a3 := Tryz.isAgg3
  z3 := Tryz.sizeOf3
  v3 := Tryz.zeroValue3
  t4 := Tryz.underlying4
  a4 := Tryz.isAgg4
  z4 := Tryz.sizeOf4
  v4 := Tryz.zeroValue4
  t5 := Tryz.underlying5
  a5 := Tryz.isAgg5
  z5 := Tryz.sizeOf5
  v5 := Tryz.zeroValue5
  t9 := Tryz.underlying9
  a9 := Tryz.isAgg9
  z9 := Tryz.sizeOf9
  v9 := Tryz.zeroValue9
  t21 := Tryz.underlying21
  a21 := Tryz.isAgg21
  z21 := Tryz.sizeOf21
  v21 := Tryz.zeroValue21
  t46 := Tryz.underlying119
  a46 := Tryz.isAgg119
  z46 := Tryz.sizeOf119
  v46 := Tryz.zeroValue119 }
open Go.RowKit Go.Lib in
theorem Tryz.strings_IndexRune_ascii (s : ByteArray) (r : Int) (w : World) (h0 : 0 ≤ r) (h1 : r < 128) :
    Calls Tryz.prog 89 #[.string s, .int .i32 r] w fun e w' => e = .returned (.int .i64 (Lib.indexByte s.data.toList r.toNat.toUInt8)) ∧ w' = w := Any.strings_IndexRune_ascii Tryz.lays152 s r w h0 h1
def Tryz.lays226_ren : Go.Shelf.Ren := ⟨fun | 226 => 90 | n => n, fun | 3 => 3 | 4 => 4 | n => n, fun | n => n⟩
theorem Tryz.lays226 : Go.Proofs.Lays.n226 Tryz.prog Tryz.lays226_ren := {
  mixed := by kernel_rfl
  f226 := Tryz.func90.trans (congrArg some (by kernel_rfl))
  t3 := Tryz.underlying3
  a3 := Tryz.isAgg3
  z3 := Tryz.sizeOf3
  v3 := Tryz.zeroValue3
  t4 := Tryz.underlying4
  a4 := Tryz.isAgg4
  z4 := Tryz.sizeOf4
  v4 := Tryz.zeroValue4 }
open Go.RowKit Go.Lib in
theorem Tryz.strings_shouldUseASCIISet (n : Int) (w : World) :
    Calls Tryz.prog 90 #[.int .i64 n] w fun e w' => e = .returned (.bool (decide (8 < n))) ∧ w' = w := Any.strings_shouldUseASCIISet Tryz.lays226 n w
def Tryz.lays153_ren : Go.Shelf.Ren := ⟨fun | 153 => 76 | 152 => 89 | 226 => 90 | 227 => 91 | 228 => 92 | 137 => 88 | 119 => 108 | 224 => 101 | 225 => 100 | 217 => 99 | 266 => 115 | n => n, fun | 9 => 9 | 3 => 3 | 4 => 4 | 5 => 5 | 21 => 21 | 117 => 145 | 116 => 144 | 0 => 0 | 46 => 119 | 124 => 157 | n => n, fun | n => n⟩
theorem Tryz.lays153 : Go.Proofs.Lays.n153 Tryz.prog Tryz.lays153_ren := {
  mixed := by kernel_rfl
  f119 := Tryz.func108.trans (congrArg some (by kernel_rfl))
  f137 := Tryz.func88.trans (congrArg some (by kernel_rfl))
  f152 := Tryz.func89.trans (congrArg some (by kernel_rfl))
  f153 := Tryz.func76.trans (congrArg some (by kernel_rfl))
  f217 := Tryz.func99.trans (congrArg some (by kernel_rfl))
  f224 := Tryz.func101.trans (congrArg some (by kernel_rfl))
  f225 := Tryz.func100.trans (congrArg some (by kernel_rfl))
  f226 := Tryz.func90.trans (congrArg some (by kernel_rfl))
  f227 := Tryz.func91.trans (congrArg some (by kernel_rfl))
  f228 := Tryz.func92.trans (congrArg some (by kernel_rfl))
  f266 := Tryz.func115.trans (congrArg some (by kernel_rfl))
  t0 := Tryz.underlying0
  a0 := Tryz.isAgg0
  z0 := Tryz.sizeOf0
  v0 := Tryz.zeroValue0
  t3 := Tryz.underlying3
  a3 := Tryz.isAgg3
  z3 := Tryz.sizeOf3
  v3 := Tryz.zeroValue3
  t4 := Tryz.underlying4
  a4 := Tryz.isAgg4
  z4 := Tryz.sizeOf4
  v4 := Tryz.zeroValue4
  t5 := Tryz.underlying5
  a5 := Tryz.isAgg5
  z5 := Tryz.sizeOf5
  v5 := Tryz.zeroValue5
  t9 := Tryz.underlying9
  a9 := Tryz.isAgg9
  z9 := Tryz.sizeOf9
  v9 := Tryz.zeroValue9
  t21 := Tryz.underlying21
  a21 := Tryz.isAgg21
  z21 := Tryz.sizeOf21
  v21 := Tryz.zeroValue21
  t46 := Tryz.underlying119
  a46 := Tryz.isAgg119
  z46 := Tryz.sizeOf119
  v46 := Tryz.zeroValue119
  t116 := Tryz.underlying144
  a116 := Tryz.isAgg144
  z116 := Tryz.sizeOf144
  t117 := Tryz.underlying145
  a117 := Tryz.isAgg145
  z117 := Tryz.sizeOf145
  v117 := Tryz.zeroValue145
  t124 := Tryz.underlying157
  a124 := Tryz.isAgg157
  z124 := Tryz.sizeOf157
  v124 := Tryz.zeroValue157 }
open Go.RowKit Go.Lib in
theorem Tryz.strings_IndexAny_long (hv116 : ∀ w, (zeroValue 144).run Tryz.prog w = .ok (.agg (Array.replicate 256 (.bool false))) w) (s chars : ByteArray) (w : World) (h2 : 2 ≤ chars.size) (h8 : 8 < s.size) (hs : s.size < 4294967281) (hcs : chars.size < 4294967281) (hascii : ∀ (j : Nat) b, chars.data.toList[j]? = some b → b.toNat < 128) :
    Calls Tryz.prog 76 #[.string s, .string chars] w fun e w' => e = .returned (.int .i64 (Lib.indexAny s.data.toList chars.data.toList)) ∧ w' = ((w.alloc (.cells (Lib.setCells chars.data.toList) 144)).alloc (.cells (Lib.setCells chars.data.toList) 144)) := Any.strings_IndexAny_long Tryz.lays153 hv116 (by kernel_rfl) s chars w h2 h8 hs hcs hascii
def Tryz.laysM171_ren : Go.Shelf.Ren := ⟨fun | 171 => 68 | 243 => 84 | 246 => 98 | 283 => 111 | 284 => 112 | 285 => 113 | 286 => 114 | 129 => 121 | 317 => 120 | 318 => 122 | 319 => 123 | 320 => 124 | 337 => 127 | 338 => 128 | n => n, fun | 3 => 3 | 9 => 9 | 2 => 2 | 4 => 4 | 171 => 164 | 0 => 0 | 53 => 165 | 37 => 37 | 5 => 5 | 173 => 168 | 212 => 179 | 51 => 170 | 20 => 20 | 213 => 180 | 46 => 119 | 232 => 187 | 233 => 188 | n => n, fun | 17 => 5 | 18 => 6 | 19 => 7 | n => n⟩
theorem Tryz.laysM171 : Go.Proofs.LaysM.n171 Tryz.prog Tryz.laysM171_ren := {
  mixed := by kernel_rfl
  f129 := Tryz.func121.trans (congrArg some (by kernel_rfl))
  f171 := Tryz.func68.trans (congrArg some (by kernel_rfl))
  f243 := Tryz.func84.trans (congrArg some (by kernel_rfl))
  f246 := Tryz.func98.trans (congrArg some (by kernel_rfl))
  f283 := Tryz.func111.trans (congrArg some (by kernel_rfl))
  f284 := Tryz.func112.trans (congrArg some (by kernel_rfl))
  f285 := Tryz.func113.trans (congrArg some (by kernel_rfl))
  f286 := Tryz.func114.trans (congrArg some (by kernel_rfl))
  f317 := Tryz.func120.trans (congrArg some (by kernel_rfl))
  f318 := Tryz.func122.trans (congrArg some (by kernel_rfl))
  f319 := Tryz.func123.trans (congrArg some (by kernel_rfl))
  f320 := Tryz.func124.trans (congrArg some (by kernel_rfl))
  f337 := Tryz.func127.trans (congrArg some (by kernel_rfl))
  f338 := Tryz.func128.trans (congrArg some (by kernel_rfl))
  t0 := Tryz.underlying0
  a0 := Tryz.isAgg0
  z0 := Tryz.sizeOf0
  v0 := Tryz.zeroValue0
  t2 := Tryz.underlying2
  a2 := Tryz.isAgg2
  z2 := Tryz.sizeOf2
  v2 := Tryz.zeroValue2
  t3 := Tryz.underlying3
  a3 := Tryz.isAgg3
  z3 := Tryz.sizeOf3
  v3 := Tryz.zeroValue3
  t4 := Tryz.underlying4
  a4 := Tryz.isAgg4
  z4 := Tryz.sizeOf4
  v4 := Tryz.zeroValue4
  t5 := Tryz.underlying5
  a5 := Tryz.isAgg5
  z5 := Tryz.sizeOf5
  v5 := Tryz.zeroValue5
  t9 := Tryz.underlying9
  a9 := Tryz.isAgg9
  z9 := Tryz.sizeOf9
  v9 := Tryz.zeroValue9
  t20 := Tryz.underlying20
  a20 := Tryz.isAgg20
  z20 := Tryz.sizeOf20
  v20 := Tryz.zeroValue20
  t37 := Tryz.underlying37
  a37 := Tryz.isAgg37
  z37 := Tryz.sizeOf37
  v37 := Tryz.zeroValue37
  t46 := Tryz.underlying119
  a46 := Tryz.isAgg119
  z46 := Tryz.sizeOf119
  v46 := Tryz.zeroValue119
  t51 := Tryz.underlying170
  a51 := Tryz.isAgg170
  z51 := Tryz.sizeOf170
  v51 := Tryz.zeroValue170
  t53 := Tryz.underlying165
  a53 := Tryz.isAgg165
  z53 := Tryz.sizeOf165
  v53 := Tryz.zeroValue165
  t171 := Tryz.underlying164
  a171 := Tryz.isAgg164
  z171 := Tryz.sizeOf164
  v171 := Tryz.zeroValue164
  t173 := Tryz.underlying168
  a173 := Tryz.isAgg168
  z173 := Tryz.sizeOf168
  v173 := Tryz.zeroValue168
  t212 := Tryz.underlying179
  a212 := Tryz.isAgg179
  z212 := Tryz.sizeOf179
  v212 := Tryz.zeroValue179
  t213 := Tryz.underlying180
  a213 := Tryz.isAgg180
  z213 := Tryz.sizeOf180
  t232 := Tryz.underlying187
  a232 := Tryz.isAgg187
  z232 := Tryz.sizeOf187
  v232 := Tryz.zeroValue187
  t233 := Tryz.underlying188
  a233 := Tryz.isAgg188
  z233 := Tryz.sizeOf188
  v233 := Tryz.zeroValue188
  g17 := by kernel_rfl
  g18 := by kernel_rfl
  g19 := by kernel_rfl
  i0 := by kernel_rfl
  i2 := by kernel_rfl
  i3 := by kernel_rfl
  i4 := by kernel_rfl
  i5 := by kernel_rfl
  i9 := by kernel_rfl
  i20 := by kernel_rfl
  i37 := by kernel_rfl
  i46 := by kernel_rfl
  i51 := by kernel_rfl
  i53 := by kernel_rfl
  i171 := by kernel_rfl
  i173 := by kernel_rfl
  i212 := by kernel_rfl
  i232 := by kernel_rfl
  i233 := by kernel_rfl
  m17 := by kernel_rfl
  m18 := by kernel_rfl
  m19 := by kernel_rfl }
open Go.RowKit Go.Sort Go.Lib in
theorem Tryz.strconv_Itoa (n : Int) (h0 : -9223372036854775808 ≤ n) (h1 : n ≤ 9223372036854775807) (w : World) (htab : Lib.TabIs Tryz.prog w "internal/strconv.uint64pow10" .u64 Lib.pow10Tab) :
    Calls Tryz.prog 68 #[.int .i64 n] w fun e w' => e = .returned (.string ⟨(Lib.itoa n).toArray⟩) ∧ ∃ k os, w' = grow (w.drewN k) os := Any.strconv_Itoa Tryz.laysM171 n h0 h1 w htab
def Tryz.laysC172_ren : Go.Shelf.Ren := ⟨fun | 172 => 70 | 244 => 86 | 245 => 87 | 247 => 103 | 279 => 104 | 280 => 105 | 281 => 106 | 282 => 107 | 287 => 117 | 316 => 118 | 171 => 68 | 205 => 119 | 321 => 125 | 322 => 126 | 243 => 84 | 246 => 98 | 283 => 111 | 284 => 112 | 285 => 113 | 286 => 114 | 129 => 121 | 317 => 120 | 318 => 122 | 319 => 123 | 320 => 124 | 337 => 127 | 338 => 128 | n => n, fun | 9 => 9 | 3 => 3 | 75 => 82 | 76 => 83 | 4 => 4 | 5 => 5 | 167 => 151 | 37 => 37 | 0 => 0 | 85 => 152 | 2 => 2 | 168 => 154 | 53 => 165 | 175 => 173 | 46 => 119 | 210 => 176 | 127 => 121 | 145 => 185 | 143 => 183 | 21 => 21 | 171 => 164 | 173 => 168 | 212 => 179 | 51 => 170 | 20 => 20 | 213 => 180 | 232 => 187 | 233 => 188 | 80 => 87 | n => n, fun | 15 => 3 | 16 => 4 | 17 => 5 | 18 => 6 | 19 => 7 | n => n⟩
theorem Tryz.laysC172 : Go.Proofs.LaysC.n172 Tryz.prog Tryz.laysC172_ren := {
  mixed := by kernel_rfl
  f129 := Tryz.func121.trans (congrArg some (by kernel_rfl))
  f171 := Tryz.func68.trans (congrArg some (by kernel_rfl))
  f172 := Tryz.func70.trans (congrArg some (by kernel_rfl))
  f205 := Tryz.func119.trans (congrArg some (by kernel_rfl))
  f243 := Tryz.func84.trans (congrArg some (by kernel_rfl))
  f244 := Tryz.func86.trans (congrArg some (by kernel_rfl))
  f245 := Tryz.func87.trans (congrArg some (by kernel_rfl))
  f246 := Tryz.func98.trans (congrArg some (by kernel_rfl))
  f247 := Tryz.func103.trans (congrArg some (by kernel_rfl))
  f279 := Tryz.func104.trans (congrArg some (by kernel_rfl))
  f280 := Tryz.func105.trans (congrArg some (by kernel_rfl))
  f281 := Tryz.func106.trans (congrArg some (by kernel_rfl))
  f282 := Tryz.func107.trans (congrArg some (by kernel_rfl))
  f283 := Tryz.func111.trans (congrArg some (by kernel_rfl))
  f284 := Tryz.func112.trans (congrArg some (by kernel_rfl))
  f285 := Tryz.func113.trans (congrArg some (by kernel_rfl))
  f286 := Tryz.func114.trans (congrArg some (by kernel_rfl))
  f287 := Tryz.func117.trans (congrArg some (by kernel_rfl))
  f316 := Tryz.func118.trans (congrArg some (by kernel_rfl))
  f317 := Tryz.func120.trans (congrArg some (by kernel_rfl))
  f318 := Tryz.func122.trans (congrArg some (by kernel_rfl))
  f319 := Tryz.func123.trans (congrArg some (by kernel_rfl))
  f320 := Tryz.func124.trans (congrArg some (by kernel_rfl))
  f321 := Tryz.func125.trans (congrArg some (by kernel_rfl))
  f322 := Tryz.func126.trans (congrArg some (by kernel_rfl))
  f337 := Tryz.func127.trans (congrArg some (by kernel_rfl))
  f338 := Tryz.func128.trans (congrArg some (by kernel_rfl))
  t0 := Tryz.underlying0
  a0 := Tryz.isAgg0
  z0 := Tryz.sizeOf0
  v0 := Tryz.zeroValue0
  t2 := Tryz.underlying2
  a2 := Tryz.isAgg2
  z2 := Tryz.sizeOf2
  v2 := Tryz.zeroValue2
  t3 := Tryz.underlying3
  a3 := Tryz.isAgg3
  z3 := Tryz.sizeOf3
  v3 := Tryz.zeroValue3
  t4 := Tryz.underlying4
  a4 := Tryz.isAgg4
  z4 := Tryz.sizeOf4
  v4 := Tryz.zeroValue4
  t5 := Tryz.underlying5
  a5 := Tryz.isAgg5
  z5 := Tryz.sizeOf5
  v5 := Tryz.zeroValue5
  t9 := Tryz.underlying9
  a9 := Tryz.isAgg9
  z9 := Tryz.sizeOf9
  v9 := Tryz.zeroValue9
  t20 := Tryz.underlying20
  a20 := Tryz.isAgg20
  z20 := Tryz.sizeOf20
  v20 := Tryz.zeroValue20
  t21 := Tryz.underlying21
  a21 := Tryz.isAgg21
  z21 := Tryz.sizeOf21
  v21 := Tryz.zeroValue21
  t37 := Tryz.underlying37
  a37 := Tryz.isAgg37
  z37 := Tryz.sizeOf37
  v37 := Tryz.zeroValue37
  t46 := Tryz.underlying119
  a46 := Tryz.isAgg119
  z46 := Tryz.sizeOf119
  v46 := Tryz.zeroValue119
  t51 := Tryz.underlying170
  a51 := Tryz.isAgg170
  z51 := Tryz.sizeOf170
  v51 := Tryz.zeroValue170
  t53 := Tryz.underlying165
  a53 := Tryz.isAgg165
  z53 := Tryz.sizeOf165
  v53 := Tryz.zeroValue165
  t75 := Tryz.underlying82
  a75 := Tryz.isAgg82
  z75 := Tryz.sizeOf82
  v75 := Tryz.zeroValue82
  t76 := Tryz.underlying83
  a76 := Tryz.isAgg83
  z76 := Tryz.sizeOf83
  v76 := Tryz.zeroValue83
  t85 := Tryz.underlying152
  a85 := Tryz.isAgg152
  z85 := Tryz.sizeOf152
  v85 := Tryz.zeroValue152
  t127 := Tryz.underlying121
  a127 := Tryz.isAgg121
  z127 := Tryz.sizeOf121
  v127 := Tryz.zeroValue121
  t143 := Tryz.underlying183
  a143 := Tryz.isAgg183
  z143 := Tryz.sizeOf183
  v143 := Tryz.zeroValue183
  t145 := Tryz.underlying185
  a145 := Tryz.isAgg185
  z145 := Tryz.sizeOf185
  v145 := Tryz.zeroValue185
  t167 := Tryz.underlying151
  a167 := Tryz.isAgg151
  z167 := Tryz.sizeOf151
  v167 := Tryz.zeroValue151
  t168 := Tryz.underlying154
  a168 := Tryz.isAgg154
  z168 := Tryz.sizeOf154
  v168 := Tryz.zeroValue154
  t171 := Tryz.underlying164
  a171 := Tryz.isAgg164
  z171 := Tryz.sizeOf164
  v171 := Tryz.zeroValue164
  t173 := Tryz.underlying168
  a173 := Tryz.isAgg168
  z173 := Tryz.sizeOf168
  v173 := Tryz.zeroValue168
  t175 := Tryz.underlying173
  a175 := Tryz.isAgg173
  z175 := Tryz.sizeOf173
  v175 := Tryz.zeroValue173
  t210 := Tryz.underlying176
  a210 := Tryz.isAgg176
  z210 := Tryz.sizeOf176
  v210 := Tryz.zeroValue176
  t212 := Tryz.underlying179
  a212 := Tryz.isAgg179
  z212 := Tryz.sizeOf179
  v212 := Tryz.zeroValue179
  t213 := Tryz.underlying180
  a213 := Tryz.isAgg180
  z213 := Tryz.sizeOf180
  t232 := Tryz.underlying187
  a232 := Tryz.isAgg187
  z232 := Tryz.sizeOf187
  v232 := Tryz.zeroValue187
  t233 := Tryz.underlying188
  a233 := Tryz.isAgg188
  z233 := Tryz.sizeOf188
  v233 := Tryz.zeroValue188
  g15 := by kernel_rfl
  g16 := by kernel_rfl
  g17 := by kernel_rfl
  g18 := by kernel_rfl
  g19 := by kernel_rfl
  t80 := Tryz.underlying87
  a80 := Tryz.isAgg87
  z80 := Tryz.sizeOf87
  v80 := Tryz.zeroValue87
  i0 := by kernel_rfl
  i2 := by kernel_rfl
  i3 := by kernel_rfl
  i4 := by kernel_rfl
  i5 := by kernel_rfl
  i9 := by kernel_rfl
  i20 := by kernel_rfl
  i21 := by kernel_rfl
  i37 := by kernel_rfl
  i46 := by kernel_rfl
  i51 := by kernel_rfl
  i53 := by kernel_rfl
  i75 := by kernel_rfl
  i76 := by kernel_rfl
  i80 := by kernel_rfl
  i85 := by kernel_rfl
  i127 := by kernel_rfl
  i143 := by kernel_rfl
  i145 := by kernel_rfl
  i167 := by kernel_rfl
  i168 := by kernel_rfl
  i171 := by kernel_rfl
  i173 := by kernel_rfl
  i175 := by kernel_rfl
  i210 := by kernel_rfl
  i212 := by kernel_rfl
  i232 := by kernel_rfl
  i233 := by kernel_rfl
  m15 := by kernel_rfl
  m16 := by kernel_rfl
  m17 := by kernel_rfl
  m18 := by kernel_rfl
  m19 := by kernel_rfl
  c0 := by kernel_rfl
  c2 := by kernel_rfl
  c3 := by kernel_rfl
  c4 := by kernel_rfl
  c5 := by kernel_rfl
  c9 := by kernel_rfl
  c20 := by kernel_rfl
  c21 := by kernel_rfl
  c37 := by kernel_rfl
  c46 := by kernel_rfl
  c51 := by kernel_rfl
  c53 := by kernel_rfl
  c75 := by kernel_rfl
  c76 := by kernel_rfl
  c80 := by kernel_rfl
  c85 := by kernel_rfl
  c127 := by kernel_rfl
  c143 := by kernel_rfl
  c145 := by kernel_rfl
  c167 := by kernel_rfl
  c168 := by kernel_rfl
  c171 := by kernel_rfl
  c173 := by kernel_rfl
  c175 := by kernel_rfl
  c210 := by kernel_rfl
  c212 := by kernel_rfl
  c213 := by kernel_rfl
  c232 := by kernel_rfl
  c233 := by kernel_rfl }
open Go.RowKit in
theorem Tryz.strconv_Atoi_ok (s : ByteArray) (hmax : s.size ≤ 9223372036854775806) (v : Int) (h : Lib.atoiAll s.data.toList = .ok v) (w : World) :
    Calls Tryz.prog 70 #[.string s] w fun e w' => e = .returned (.tuple #[.int .i64 v, .nilIface]) ∧ (w' = w ∨ ∃ t, w' = Lib.bytesWorld w 5 t) := Any.strconv_Atoi_ok Tryz.laysC172 s hmax v h w
open Go.RowKit in
theorem Tryz.strconv_Atoi_syntax (s : ByteArray) (hlim : s.size ≤ 281474976710656) (h : Lib.atoiAll s.data.toList = Lib.atoiAll []) (ev : Value) (w : World) (hv : w.cell? ⟨3, 0, none⟩ = some ev) (hev : ev = .nilIface ∨ ∃ te pe, ev = .iface te pe) :
    Calls Tryz.prog 70 #[.string s] w fun e w' => ∃ N, e = .returned (.tuple #[.int .i64 (0), .iface 154 (.pointer (some ⟨N, 0, none⟩))]) ∧ w.heap.size ≤ N ∧ w'.heap[N]? = some (.cells #[.string ⟨#[65, 116, 111, 105]⟩, .string s, ev] 176 (0, 0)) ∧ Below w.heap.size w w' := Any.strconv_Atoi_syntax Tryz.laysC172 s hlim (h.trans rfl) ev w hv hev
open Go.RowKit in
theorem Tryz.strconv_Atoi_range (s : ByteArray) (hlim : s.size ≤ 281474976710656) (h : Lib.atoiAll s.data.toList = .range) (ev : Value) (w : World) (hv : w.cell? ⟨4, 0, none⟩ = some ev) (hev : ev = .nilIface ∨ ∃ te pe, ev = .iface te pe) :
    Calls Tryz.prog 70 #[.string s] w fun e w' => ∃ N, e = .returned (.tuple #[.int .i64 (Lib.atoiSat s.data.toList), .iface 154 (.pointer (some ⟨N, 0, none⟩))]) ∧ w.heap.size ≤ N ∧ w'.heap[N]? = some (.cells #[.string ⟨#[65, 116, 111, 105]⟩, .string s, ev] 176 (0, 0)) ∧ Below w.heap.size w w' := Any.strconv_Atoi_range Tryz.laysC172 s hlim h ev w hv hev
end Go.Proofs.YtlkaaoekbmegkaaGreatDoor
namespace Go.Proofs.YtlkaaoekbmegkaaGreatDoor
set_option linter.all false
open Go.RowKit
open Go.Lib (index hasPrefix trimPrefix cut indexAny)
theorem Vl.tup2 {w : World} {S : Nat → Prop} {ρ : Rho} {x y : AV} {u v : Value} (h : Vl1 w S ρ x u) (k : Vl1 w S ρ y v) : Vl w S ρ (.tup [x, y]) (.tuple #[u, v]) :=
  ⟨[u, v], rfl, rfl, fun i hi => by
    match i, hi with
    | 0, _ => exact h
    | 1, _ => exact k⟩
theorem Vl.tup3 {w : World} {S : Nat → Prop} {ρ : Rho} {x y z : AV} {u v t : Value} (h : Vl1 w S ρ x u) (k : Vl1 w S ρ y v) (m : Vl1 w S ρ z t) : Vl w S ρ (.tup [x, y, z]) (.tuple #[u, v, t]) :=
  ⟨[u, v, t], rfl, rfl, fun i hi => by
    match i, hi with
    | 0, _ => exact h
    | 1, _ => exact k
    | 2, _ => exact m⟩
def unS : AV → List UInt8
  | .str l => l
  | _ => []
end Go.Proofs.YtlkaaoekbmegkaaGreatDoor
