/- The functions of the program, laid open with shapes: printed by a program of mine; that they are the program's is proved at the end. -/
import Derived.Test.YtgkjmdbjncnlpaaEvZ
import Derived.Test.YtgkjmdbjncnlpaaEvW
import Derived.Test.YtgkjmdbjncnlpaaRows
namespace Go.Proofs.Ytgkjmdbjncnlpaa
open Go.Ev
set_option maxRecDepth 100000

/-- The functions of which a law is shown. -/
def isSl : List FuncId := [3,4,5,6,7,8,9,10,11,12,13,14,15,16,17,18,19,20,21,22,23]

def isS (f : FuncId) : Bool := isSl.contains f

def c3_0 : KC := (.ops [⟨⟨(some 4), (.op (.box (.t 0))), none⟩, .no⟩, ⟨⟨(some 5), (.op (.box (.t 1))), none⟩, .no⟩, ⟨⟨(some 8), (.op (.mv (.c (.bool false)))), none⟩, .no⟩])
def c3_1 : KC := (.ops [⟨⟨(some 22), (.scall 9 []), none⟩, (.leaf .bool)⟩, ⟨⟨(some 9), (.op (.mv (.t 22))), none⟩, .no⟩])
def c3_2 : KC := (.ops [⟨⟨(some 24), (.op (.load true 3 (.t 4))), none⟩, (.agg [(.int .i64), (.int .i64), .bool])⟩, ⟨⟨(some 25), (.op (.mv (.t 2))), none⟩, .no⟩, ⟨⟨(some 26), (.op (.mv (.t 3))), none⟩, .no⟩, ⟨⟨(some 27), (.scall 10 [(.t 24), (.t 25), (.t 26)]), none⟩, (.tup [(.agg [(.int .i64), (.int .i64), .bool]), (.leaf (.int .i64))])⟩, ⟨⟨(some 23), (.op (.mv (.t 27))), none⟩, .no⟩, ⟨⟨(some 28), (.op (.ext 0 (.t 23))), none⟩, .no⟩, ⟨⟨(some 29), (.op (.ext 1 (.t 23))), none⟩, .no⟩, ⟨⟨(some 10), (.op (.alloc [(.int .i64 0), (.int .i64 0), (.bool false)])), none⟩, .no⟩, ⟨⟨none, (.op (.store 3 (.t 10) (.t 28))), none⟩, .no⟩, ⟨⟨(some 11), (.op (.mv (.t 29))), none⟩, .no⟩])
def c3_3 : KC := (.ops [⟨⟨(some 31), (.op (.load true 3 (.t 4))), none⟩, (.agg [(.int .i64), (.int .i64), .bool])⟩, ⟨⟨(some 32), (.op (.mv (.t 2))), none⟩, .no⟩, ⟨⟨(some 33), (.op (.mv (.t 3))), none⟩, .no⟩, ⟨⟨(some 34), (.scall 11 [(.t 31), (.t 32), (.t 33)]), none⟩, (.tup [(.agg [(.int .i64), (.int .i64), .bool]), (.leaf (.int .i64))])⟩, ⟨⟨(some 30), (.op (.mv (.t 34))), none⟩, .no⟩, ⟨⟨(some 35), (.op (.ext 0 (.t 30))), none⟩, .no⟩, ⟨⟨(some 36), (.op (.ext 1 (.t 30))), none⟩, .no⟩, ⟨⟨(some 12), (.op (.alloc [(.int .i64 0), (.int .i64 0), (.bool false)])), none⟩, .no⟩, ⟨⟨none, (.op (.store 3 (.t 12) (.t 35))), none⟩, .no⟩, ⟨⟨(some 13), (.op (.mv (.t 36))), none⟩, .no⟩])
def c3_4 : KC := (.ops [⟨⟨(some 38), (.op (.load true 3 (.t 4))), none⟩, (.agg [(.int .i64), (.int .i64), .bool])⟩, ⟨⟨(some 39), (.op (.mv (.t 2))), none⟩, .no⟩, ⟨⟨(some 40), (.op (.mv (.t 3))), none⟩, .no⟩, ⟨⟨(some 41), (.scall 12 [(.t 38), (.t 39), (.t 40)]), none⟩, (.tup [(.agg [(.int .i64), (.int .i64), .bool]), (.leaf (.int .i64))])⟩, ⟨⟨(some 37), (.op (.mv (.t 41))), none⟩, .no⟩, ⟨⟨(some 42), (.op (.ext 0 (.t 37))), none⟩, .no⟩, ⟨⟨(some 43), (.op (.ext 1 (.t 37))), none⟩, .no⟩, ⟨⟨(some 14), (.op (.alloc [(.int .i64 0), (.int .i64 0), (.bool false)])), none⟩, .no⟩, ⟨⟨none, (.op (.store 3 (.t 14) (.t 42))), none⟩, .no⟩, ⟨⟨(some 15), (.op (.mv (.t 43))), none⟩, .no⟩])
def c3_5 : KC := (.ops [⟨⟨(some 45), (.op (.load true 3 (.t 4))), none⟩, (.agg [(.int .i64), (.int .i64), .bool])⟩, ⟨⟨(some 46), (.op (.mv (.t 2))), none⟩, .no⟩, ⟨⟨(some 47), (.op (.mv (.t 3))), none⟩, .no⟩, ⟨⟨(some 48), (.scall 13 [(.t 45), (.t 46), (.t 47)]), none⟩, (.tup [(.agg [(.int .i64), (.int .i64), .bool]), (.leaf (.int .i64))])⟩, ⟨⟨(some 44), (.op (.mv (.t 48))), none⟩, .no⟩, ⟨⟨(some 49), (.op (.ext 0 (.t 44))), none⟩, .no⟩, ⟨⟨(some 50), (.op (.ext 1 (.t 44))), none⟩, .no⟩, ⟨⟨(some 16), (.op (.alloc [(.int .i64 0), (.int .i64 0), (.bool false)])), none⟩, .no⟩, ⟨⟨none, (.op (.store 3 (.t 16) (.t 49))), none⟩, .no⟩, ⟨⟨(some 17), (.op (.mv (.t 50))), none⟩, .no⟩])
def c3_6 : KC := (.ops [⟨⟨(some 52), (.op (.load true 3 (.t 4))), none⟩, (.agg [(.int .i64), (.int .i64), .bool])⟩, ⟨⟨(some 53), (.op (.load true 3 (.t 5))), none⟩, (.agg [(.int .i64), (.int .i64), .bool])⟩, ⟨⟨(some 54), (.scall 14 [(.t 52), (.t 53)]), none⟩, (.tup [(.leaf (.int .i64)), (.leaf (.int .i64))])⟩, ⟨⟨(some 51), (.op (.mv (.t 54))), none⟩, .no⟩, ⟨⟨(some 55), (.op (.ext 0 (.t 51))), none⟩, .no⟩, ⟨⟨(some 56), (.op (.ext 1 (.t 51))), none⟩, .no⟩, ⟨⟨(some 18), (.op (.mv (.t 55))), none⟩, .no⟩, ⟨⟨(some 19), (.op (.mv (.t 56))), none⟩, .no⟩])
def c3_7 : KC := (.ops [⟨⟨(some 58), (.op (.load true 3 (.t 4))), none⟩, (.agg [(.int .i64), (.int .i64), .bool])⟩, ⟨⟨(some 59), (.op (.load true 3 (.t 5))), none⟩, (.agg [(.int .i64), (.int .i64), .bool])⟩, ⟨⟨(some 60), (.scall 15 [(.t 58), (.t 59)]), none⟩, (.tup [(.leaf (.int .i64)), (.leaf (.int .i64))])⟩, ⟨⟨(some 57), (.op (.mv (.t 60))), none⟩, .no⟩, ⟨⟨(some 61), (.op (.ext 0 (.t 57))), none⟩, .no⟩, ⟨⟨(some 62), (.op (.ext 1 (.t 57))), none⟩, .no⟩, ⟨⟨(some 20), (.op (.mv (.t 61))), none⟩, .no⟩, ⟨⟨(some 21), (.op (.mv (.t 62))), none⟩, .no⟩])
def c3_8 : KC := (.ops [⟨⟨(some 63), (.op (.mv (.t 9))), none⟩, .no⟩, ⟨⟨(some 64), (.op (.mv (.t 63))), none⟩, .no⟩, ⟨⟨(some 65), (.op (.load true 3 (.t 10))), (some (64, true))⟩, (.agg [(.int .i64), (.int .i64), .bool])⟩, ⟨⟨(some 66), (.op (.load true 3 (.t 12))), (some (64, true))⟩, (.agg [(.int .i64), (.int .i64), .bool])⟩, ⟨⟨(some 67), (.op (.eqs false [(0, .i), (1, .i), (2, .b)] (.t 65) (.t 66))), (some (64, true))⟩, .no⟩, ⟨⟨(some 68), (.op (.pick (.t 64) (.t 67) (.c (.bool false)))), none⟩, .no⟩, ⟨⟨(some 69), (.op (.mv (.t 68))), none⟩, .no⟩, ⟨⟨(some 70), (.op (.mv (.t 11))), (some (69, true))⟩, .no⟩, ⟨⟨(some 71), (.op (.mv (.t 13))), (some (69, true))⟩, .no⟩, ⟨⟨(some 72), (.op (.bin .eql (.t 70) (.t 71))), (some (69, true))⟩, .no⟩, ⟨⟨(some 73), (.op (.pick (.t 69) (.t 72) (.c (.bool false)))), none⟩, .no⟩, ⟨⟨(some 74), (.op (.mv (.t 73))), none⟩, .no⟩, ⟨⟨(some 75), (.op (.load true 3 (.t 14))), (some (74, true))⟩, (.agg [(.int .i64), (.int .i64), .bool])⟩, ⟨⟨(some 76), (.op (.load true 3 (.t 16))), (some (74, true))⟩, (.agg [(.int .i64), (.int .i64), .bool])⟩, ⟨⟨(some 77), (.op (.eqs false [(0, .i), (1, .i), (2, .b)] (.t 75) (.t 76))), (some (74, true))⟩, .no⟩, ⟨⟨(some 78), (.op (.pick (.t 74) (.t 77) (.c (.bool false)))), none⟩, .no⟩, ⟨⟨(some 79), (.op (.mv (.t 78))), none⟩, .no⟩, ⟨⟨(some 80), (.op (.mv (.t 15))), (some (79, true))⟩, .no⟩, ⟨⟨(some 81), (.op (.mv (.t 17))), (some (79, true))⟩, .no⟩, ⟨⟨(some 82), (.op (.bin .eql (.t 80) (.t 81))), (some (79, true))⟩, .no⟩, ⟨⟨(some 83), (.op (.pick (.t 79) (.t 82) (.c (.bool false)))), none⟩, .no⟩, ⟨⟨(some 84), (.op (.mv (.t 83))), none⟩, .no⟩, ⟨⟨(some 85), (.op (.mv (.t 18))), (some (84, true))⟩, .no⟩, ⟨⟨(some 86), (.op (.mv (.t 20))), (some (84, true))⟩, .no⟩, ⟨⟨(some 87), (.op (.bin .eql (.t 85) (.t 86))), (some (84, true))⟩, .no⟩, ⟨⟨(some 88), (.op (.pick (.t 84) (.t 87) (.c (.bool false)))), none⟩, .no⟩, ⟨⟨(some 89), (.op (.mv (.t 88))), none⟩, .no⟩, ⟨⟨(some 90), (.op (.mv (.t 19))), (some (89, true))⟩, .no⟩, ⟨⟨(some 91), (.op (.mv (.t 21))), (some (89, true))⟩, .no⟩, ⟨⟨(some 92), (.op (.bin .eql (.t 90) (.t 91))), (some (89, true))⟩, .no⟩, ⟨⟨(some 93), (.op (.pick (.t 89) (.t 92) (.c (.bool false)))), none⟩, .no⟩, ⟨⟨(some 8), (.op (.mv (.t 93))), none⟩, .no⟩])
def c3_9 : KC := .ret
def c3_10 : KC := (.seq c3_8 c3_9)
def c3_11 : KC := (.seq c3_7 c3_10)
def c3_12 : KC := (.seq c3_6 c3_11)
def c3_13 : KC := (.seq c3_5 c3_12)
def c3_14 : KC := (.seq c3_4 c3_13)
def c3_15 : KC := (.seq c3_3 c3_14)
def c3_16 : KC := (.seq c3_2 c3_15)
def c3_17 : KC := (.seq c3_1 c3_16)
def c3_18 : KC := (.seq c3_0 c3_17)
def kf3 : KF := ⟨94, [(.tmp 8 none)], c3_18⟩
def kl3 : List (Nat × TI) := []
def kt3 : List (Nat × TI) := []
def c4_0 : KC := (.ops [⟨⟨(some 3), (.op (.box (.t 0))), none⟩, .no⟩, ⟨⟨(some 6), (.op (.mv (.c (.bool false)))), none⟩, .no⟩])
def c4_1 : KC := (.ops [⟨⟨(some 16), (.scall 9 []), none⟩, (.leaf .bool)⟩, ⟨⟨(some 7), (.op (.mv (.t 16))), none⟩, .no⟩])
def c4_2 : KC := (.ops [⟨⟨(some 17), (.op (.load true 3 (.t 3))), none⟩, (.agg [(.int .i64), (.int .i64), .bool])⟩, ⟨⟨(some 18), (.op (.mv (.t 1))), none⟩, .no⟩, ⟨⟨(some 19), (.scall 16 [(.t 17), (.t 18)]), none⟩, (.leaf .bool)⟩, ⟨⟨(some 20), (.op (.un .not (.t 19))), none⟩, .no⟩, ⟨⟨(some 21), (.op (.mv (.t 20))), none⟩, .no⟩, ⟨⟨(some 22), (.op (.mv (.t 1))), (some (21, false))⟩, .no⟩, ⟨⟨(some 23), (.op (.len (.t 22))), (some (21, false))⟩, .no⟩, ⟨⟨(some 24), (.op (.bin .eql (.t 23) (.c (.int .i64 0)))), (some (21, false))⟩, .no⟩, ⟨⟨(some 25), (.op (.pick (.t 21) (.c (.bool true)) (.t 24))), none⟩, .no⟩])
def c4_3 : KC := (.ops [⟨⟨(some 26), (.op (.mv (.t 7))), none⟩, .no⟩, ⟨⟨(some 6), (.op (.mv (.t 26))), none⟩, .no⟩])
def c4_4 : KC := .ret
def c4_5 : KC := (.seq c4_3 c4_4)
def c4_6 : KC := .skip
def c4_7 : KC := (.cond (.t 25) c4_5 c4_6)
def c4_8 : KC := (.seq c4_2 c4_7)
def c4_9 : KC := (.ops [⟨⟨(some 27), (.op (.mv (.t 2))), none⟩, .no⟩, ⟨⟨(some 28), (.op (.cvi .i64 (.t 27))), none⟩, .no⟩, ⟨⟨(some 29), (.op (.mv (.t 1))), none⟩, .no⟩, ⟨⟨(some 30), (.op (.len (.t 29))), none⟩, .no⟩, ⟨⟨(some 31), (.op (.bin .rem (.t 28) (.t 30))), none⟩, .no⟩, ⟨⟨(some 8), (.op (.mv (.t 31))), none⟩, .no⟩])
def c4_10 : KC := (.ops [⟨⟨(some 33), (.op (.load true 3 (.t 3))), none⟩, (.agg [(.int .i64), (.int .i64), .bool])⟩, ⟨⟨(some 34), (.op (.mv (.t 1))), none⟩, .no⟩, ⟨⟨(some 35), (.scall 17 [(.t 33), (.t 34)]), none⟩, (.tup [(.agg [(.int .i64), (.int .i64), .bool]), (.leaf (.int .i64)), (.leaf .bool)])⟩, ⟨⟨(some 32), (.op (.mv (.t 35))), none⟩, .no⟩, ⟨⟨(some 36), (.op (.ext 0 (.t 32))), none⟩, .no⟩, ⟨⟨(some 37), (.op (.ext 1 (.t 32))), none⟩, .no⟩, ⟨⟨(some 38), (.op (.ext 2 (.t 32))), none⟩, .no⟩, ⟨⟨(some 9), (.op (.alloc [(.int .i64 0), (.int .i64 0), (.bool false)])), none⟩, .no⟩, ⟨⟨none, (.op (.store 3 (.t 9) (.t 36))), none⟩, .no⟩, ⟨⟨(some 10), (.op (.mv (.t 37))), none⟩, .no⟩, ⟨⟨(some 11), (.op (.mv (.t 38))), none⟩, .no⟩])
def c4_11 : KC := (.par 1 [⟨⟨(some 40), (.op (.load true 3 (.t 3))), none⟩, (.agg [(.int .i64), (.int .i64), .bool])⟩, ⟨⟨(some 41), (.op (.bslice 2 0 [] [])), none⟩, .no⟩, ⟨⟨(some 42), (.op (.mv (.t 1))), none⟩, .no⟩, ⟨⟨(some 43), (.op (.mv (.t 8))), none⟩, .no⟩, ⟨⟨(some 44), (.op (.slS 2 (.t 42) (some (.t 43)) none none)), none⟩, .no⟩, ⟨⟨(some 45), (.op (.app 2 2 (.t 41) (.t 44))), none⟩, .no⟩, ⟨⟨(some 46), (.op (.mv (.t 1))), none⟩, .no⟩, ⟨⟨(some 47), (.op (.mv (.t 8))), none⟩, .no⟩, ⟨⟨(some 48), (.op (.slS 2 (.t 46) none (some (.t 47)) none)), none⟩, .no⟩, ⟨⟨(some 49), (.op (.app 2 2 (.t 45) (.t 48))), none⟩, .no⟩, ⟨⟨(some 50), (.scall 17 [(.t 40), (.t 49)]), none⟩, (.tup [(.agg [(.int .i64), (.int .i64), .bool]), (.leaf (.int .i64)), (.leaf .bool)])⟩, ⟨⟨(some 39), (.op (.mv (.t 50))), none⟩, .no⟩, ⟨⟨(some 51), (.op (.ext 0 (.t 39))), none⟩, .no⟩, ⟨⟨(some 52), (.op (.ext 1 (.t 39))), none⟩, .no⟩, ⟨⟨(some 53), (.op (.ext 2 (.t 39))), none⟩, .no⟩, ⟨⟨(some 12), (.op (.allocR 0 [(.int .i64 0), (.int .i64 0), (.bool false)])), none⟩, .no⟩, ⟨⟨none, (.op (.store 3 (.t 12) (.t 51))), none⟩, .no⟩, ⟨⟨(some 13), (.op (.mv (.t 52))), none⟩, .no⟩, ⟨⟨(some 14), (.op (.mv (.t 53))), none⟩, .no⟩])
def c4_12 : KC := (.ops [⟨⟨(some 54), (.op (.fadr 1 (.t 3))), none⟩, .no⟩, ⟨⟨(some 55), (.op (.load false 1 (.t 54))), none⟩, (.leaf (.int .i64))⟩, ⟨⟨(some 56), (.op (.mv (.t 10))), none⟩, .no⟩, ⟨⟨(some 57), (.op (.bin .mul (.c (.int .i64 2300)) (.t 56))), none⟩, .no⟩, ⟨⟨(some 58), (.op (.bin .add (.t 55) (.t 57))), none⟩, .no⟩, ⟨⟨(some 15), (.op (.mv (.t 58))), none⟩, .no⟩])
def c4_13 : KC := (.ops [⟨⟨(some 59), (.op (.fadr 2 (.t 3))), none⟩, .no⟩, ⟨⟨(some 60), (.op (.load false 1 (.t 59))), none⟩, (.leaf .bool)⟩])
def c4_14 : KC := (.ops [⟨⟨(some 61), (.op (.fadr 1 (.t 3))), none⟩, .no⟩, ⟨⟨(some 62), (.op (.load false 1 (.t 61))), none⟩, (.leaf (.int .i64))⟩, ⟨⟨(some 63), (.op (.mv (.t 10))), none⟩, .no⟩, ⟨⟨(some 64), (.op (.bin .mul (.c (.int .i64 2300)) (.t 63))), none⟩, .no⟩, ⟨⟨(some 65), (.op (.bin .sub (.t 62) (.t 64))), none⟩, .no⟩, ⟨⟨(some 15), (.op (.mv (.t 65))), none⟩, .no⟩])
def c4_15 : KC := .skip
def c4_16 : KC := (.cond (.t 60) c4_14 c4_15)
def c4_17 : KC := (.seq c4_13 c4_16)
def c4_18 : KC := (.ops [⟨⟨(some 66), (.op (.mv (.t 7))), none⟩, .no⟩, ⟨⟨(some 67), (.op (.mv (.t 66))), none⟩, .no⟩, ⟨⟨(some 68), (.op (.mv (.t 11))), (some (67, true))⟩, .no⟩, ⟨⟨(some 69), (.op (.pick (.t 67) (.t 68) (.c (.bool false)))), none⟩, .no⟩, ⟨⟨(some 70), (.op (.mv (.t 69))), none⟩, .no⟩, ⟨⟨(some 71), (.op (.mv (.t 14))), (some (70, true))⟩, .no⟩, ⟨⟨(some 72), (.op (.pick (.t 70) (.t 71) (.c (.bool false)))), none⟩, .no⟩, ⟨⟨(some 73), (.op (.mv (.t 72))), none⟩, .no⟩, ⟨⟨(some 74), (.op (.load true 3 (.t 9))), (some (73, true))⟩, (.agg [(.int .i64), (.int .i64), .bool])⟩, ⟨⟨(some 75), (.op (.load true 3 (.t 12))), (some (73, true))⟩, (.agg [(.int .i64), (.int .i64), .bool])⟩, ⟨⟨(some 76), (.op (.eqs false [(0, .i), (1, .i), (2, .b)] (.t 74) (.t 75))), (some (73, true))⟩, .no⟩, ⟨⟨(some 77), (.op (.pick (.t 73) (.t 76) (.c (.bool false)))), none⟩, .no⟩, ⟨⟨(some 78), (.op (.mv (.t 77))), none⟩, .no⟩, ⟨⟨(some 79), (.op (.load true 3 (.t 9))), (some (78, true))⟩, (.agg [(.int .i64), (.int .i64), .bool])⟩, ⟨⟨(some 80), (.op (.fadr 0 (.t 3))), (some (78, true))⟩, .no⟩, ⟨⟨(some 81), (.op (.load false 1 (.t 80))), (some (78, true))⟩, (.leaf (.int .i64))⟩, ⟨⟨(some 82), (.op (.mv (.t 15))), (some (78, true))⟩, .no⟩, ⟨⟨(some 83), (.op (.fadr 2 (.t 3))), (some (78, true))⟩, .no⟩, ⟨⟨(some 84), (.op (.load false 1 (.t 83))), (some (78, true))⟩, (.leaf .bool)⟩, ⟨⟨(some 85), (.op (.build [(.int .i64 0), (.int .i64 0), (.bool false)] [(0, (1, (.t 81))), (1, (1, (.t 82))), (2, (1, (.t 84)))])), (some (78, true))⟩, .no⟩, ⟨⟨(some 86), (.op (.eqs false [(0, .i), (1, .i), (2, .b)] (.t 79) (.t 85))), (some (78, true))⟩, .no⟩, ⟨⟨(some 87), (.op (.pick (.t 78) (.t 86) (.c (.bool false)))), none⟩, .no⟩, ⟨⟨(some 6), (.op (.mv (.t 87))), none⟩, .no⟩])
def c4_19 : KC := .ret
def c4_20 : KC := (.seq c4_18 c4_19)
def c4_21 : KC := (.seq c4_17 c4_20)
def c4_22 : KC := (.seq c4_12 c4_21)
def c4_23 : KC := (.seq c4_11 c4_22)
def c4_24 : KC := (.seq c4_10 c4_23)
def c4_25 : KC := (.seq c4_9 c4_24)
def c4_26 : KC := (.seq c4_8 c4_25)
def c4_27 : KC := (.seq c4_1 c4_26)
def c4_28 : KC := (.seq c4_0 c4_27)
def kf4 : KF := ⟨88, [(.tmp 6 none)], c4_28⟩
def kl4 : List (Nat × TI) := []
def kt4 : List (Nat × TI) := []
def c5_0 : KC := (.ops [⟨⟨(some 2), (.op (.box (.t 0))), none⟩, .no⟩, ⟨⟨(some 4), (.op (.mv (.c (.bool false)))), none⟩, .no⟩])
def c5_1 : KC := (.ops [⟨⟨(some 11), (.scall 9 []), none⟩, (.leaf .bool)⟩, ⟨⟨(some 5), (.op (.mv (.t 11))), none⟩, .no⟩])
def c5_2 : KC := (.ops [⟨⟨(some 12), (.op (.fadr 2 (.t 2))), none⟩, .no⟩, ⟨⟨none, (.op (.store 1 (.t 12) (.c (.bool true)))), none⟩, .no⟩])
def c5_3 : KC := (.ops [⟨⟨(some 13), (.op (.load true 3 (.t 2))), none⟩, (.agg [(.int .i64), (.int .i64), .bool])⟩, ⟨⟨(some 14), (.op (.mv (.t 1))), none⟩, .no⟩, ⟨⟨(some 15), (.scall 16 [(.t 13), (.t 14)]), none⟩, (.leaf .bool)⟩, ⟨⟨(some 16), (.op (.un .not (.t 15))), none⟩, .no⟩])
def c5_4 : KC := (.ops [⟨⟨(some 17), (.op (.mv (.t 5))), none⟩, .no⟩, ⟨⟨(some 4), (.op (.mv (.t 17))), none⟩, .no⟩])
def c5_5 : KC := .ret
def c5_6 : KC := (.seq c5_4 c5_5)
def c5_7 : KC := .skip
def c5_8 : KC := (.cond (.t 16) c5_6 c5_7)
def c5_9 : KC := (.seq c5_3 c5_8)
def c5_10 : KC := (.ops [⟨⟨(some 19), (.op (.load true 3 (.t 2))), none⟩, (.agg [(.int .i64), (.int .i64), .bool])⟩, ⟨⟨(some 20), (.op (.mv (.t 1))), none⟩, .no⟩, ⟨⟨(some 21), (.scall 17 [(.t 19), (.t 20)]), none⟩, (.tup [(.agg [(.int .i64), (.int .i64), .bool]), (.leaf (.int .i64)), (.leaf .bool)])⟩, ⟨⟨(some 18), (.op (.mv (.t 21))), none⟩, .no⟩, ⟨⟨(some 22), (.op (.ext 0 (.t 18))), none⟩, .no⟩, ⟨⟨(some 23), (.op (.ext 1 (.t 18))), none⟩, .no⟩, ⟨⟨(some 24), (.op (.ext 2 (.t 18))), none⟩, .no⟩, ⟨⟨(some 6), (.op (.alloc [(.int .i64 0), (.int .i64 0), (.bool false)])), none⟩, .no⟩, ⟨⟨none, (.op (.store 3 (.t 6) (.t 22))), none⟩, .no⟩, ⟨⟨(some 7), (.op (.mv (.t 23))), none⟩, .no⟩, ⟨⟨(some 8), (.op (.mv (.t 24))), none⟩, .no⟩])
def c5_11 : KC := (.ops [⟨⟨(some 26), (.op (.load true 3 (.t 2))), none⟩, (.agg [(.int .i64), (.int .i64), .bool])⟩, ⟨⟨(some 27), (.op (.load true 3 (.t 6))), none⟩, (.agg [(.int .i64), (.int .i64), .bool])⟩, ⟨⟨(some 28), (.scall 14 [(.t 26), (.t 27)]), none⟩, (.tup [(.leaf (.int .i64)), (.leaf (.int .i64))])⟩, ⟨⟨(some 25), (.op (.mv (.t 28))), none⟩, .no⟩, ⟨⟨(some 29), (.op (.ext 0 (.t 25))), none⟩, .no⟩, ⟨⟨(some 30), (.op (.ext 1 (.t 25))), none⟩, .no⟩, ⟨⟨(some 9), (.op (.mv (.t 29))), none⟩, .no⟩, ⟨⟨(some 10), (.op (.mv (.t 30))), none⟩, .no⟩])
def c5_12 : KC := (.ops [⟨⟨(some 31), (.op (.mv (.t 5))), none⟩, .no⟩, ⟨⟨(some 32), (.op (.mv (.t 31))), none⟩, .no⟩, ⟨⟨(some 33), (.op (.mv (.t 8))), (some (32, true))⟩, .no⟩, ⟨⟨(some 34), (.op (.pick (.t 32) (.t 33) (.c (.bool false)))), none⟩, .no⟩, ⟨⟨(some 35), (.op (.mv (.t 34))), none⟩, .no⟩, ⟨⟨(some 36), (.op (.mv (.t 9))), (some (35, true))⟩, .no⟩, ⟨⟨(some 37), (.op (.bin .eql (.t 36) (.c (.int .i64 0)))), (some (35, true))⟩, .no⟩, ⟨⟨(some 38), (.op (.pick (.t 35) (.t 37) (.c (.bool false)))), none⟩, .no⟩, ⟨⟨(some 39), (.op (.mv (.t 38))), none⟩, .no⟩, ⟨⟨(some 40), (.op (.mv (.t 7))), (some (39, true))⟩, .no⟩, ⟨⟨(some 41), (.op (.bin .eql (.t 40) (.c (.int .i64 0)))), (some (39, true))⟩, .no⟩, ⟨⟨(some 42), (.op (.mv (.t 41))), (some (39, true))⟩, .no⟩, ⟨⟨(some 43), (.op (.mv (.t 10))), (some (42, true))⟩, .no⟩, ⟨⟨(some 44), (.op (.bin .eql (.t 43) (.c (.int .i64 0)))), (some (42, true))⟩, .no⟩, ⟨⟨(some 45), (.op (.pick (.t 42) (.t 44) (.c (.bool false)))), (some (39, true))⟩, .no⟩, ⟨⟨(some 46), (.op (.mv (.t 45))), (some (39, true))⟩, .no⟩, ⟨⟨(some 47), (.op (.mv (.t 7))), (some (46, false))⟩, .no⟩, ⟨⟨(some 48), (.op (.bin .gtr (.t 47) (.c (.int .i64 0)))), (some (46, false))⟩, .no⟩, ⟨⟨(some 49), (.op (.mv (.t 48))), (some (46, false))⟩, .no⟩, ⟨⟨(some 50), (.op (.mv (.t 10))), (some (49, true))⟩, .no⟩, ⟨⟨(some 51), (.op (.bin .eql (.t 50) (.c (.int .i64 11)))), (some (49, true))⟩, .no⟩, ⟨⟨(some 52), (.op (.pick (.t 49) (.t 51) (.c (.bool false)))), (some (46, false))⟩, .no⟩, ⟨⟨(some 53), (.op (.pick (.t 46) (.c (.bool true)) (.t 52))), (some (39, true))⟩, .no⟩, ⟨⟨(some 54), (.op (.pick (.t 39) (.t 53) (.c (.bool false)))), none⟩, .no⟩, ⟨⟨(some 4), (.op (.mv (.t 54))), none⟩, .no⟩])
def c5_13 : KC := .ret
def c5_14 : KC := (.seq c5_12 c5_13)
def c5_15 : KC := (.seq c5_11 c5_14)
def c5_16 : KC := (.seq c5_10 c5_15)
def c5_17 : KC := (.seq c5_9 c5_16)
def c5_18 : KC := (.seq c5_2 c5_17)
def c5_19 : KC := (.seq c5_1 c5_18)
def c5_20 : KC := (.seq c5_0 c5_19)
def kf5 : KF := ⟨55, [(.tmp 4 none)], c5_20⟩
def kl5 : List (Nat × TI) := []
def kt5 : List (Nat × TI) := []
def c6_0 : KC := (.ops [⟨⟨(some 3), (.op (.box (.t 0))), none⟩, .no⟩, ⟨⟨(some 6), (.op (.mv (.c (.bool false)))), none⟩, .no⟩])
def c6_1 : KC := (.ops [⟨⟨(some 21), (.scall 9 []), none⟩, (.leaf .bool)⟩, ⟨⟨(some 7), (.op (.mv (.t 21))), none⟩, .no⟩])
def c6_2 : KC := (.ops [⟨⟨(some 22), (.op (.fadr 2 (.t 3))), none⟩, .no⟩, ⟨⟨none, (.op (.store 1 (.t 22) (.c (.bool false)))), none⟩, .no⟩])
def c6_3 : KC := (.ops [⟨⟨(some 23), (.op (.load true 3 (.t 3))), none⟩, (.agg [(.int .i64), (.int .i64), .bool])⟩, ⟨⟨(some 24), (.op (.mv (.t 1))), none⟩, .no⟩, ⟨⟨(some 25), (.scall 16 [(.t 23), (.t 24)]), none⟩, (.leaf .bool)⟩, ⟨⟨(some 26), (.op (.un .not (.t 25))), none⟩, .no⟩, ⟨⟨(some 27), (.op (.mv (.t 26))), none⟩, .no⟩, ⟨⟨(some 28), (.op (.mv (.t 1))), (some (27, false))⟩, .no⟩, ⟨⟨(some 29), (.op (.len (.t 28))), (some (27, false))⟩, .no⟩, ⟨⟨(some 30), (.op (.bin .eql (.t 29) (.c (.int .i64 0)))), (some (27, false))⟩, .no⟩, ⟨⟨(some 31), (.op (.pick (.t 27) (.c (.bool true)) (.t 30))), none⟩, .no⟩])
def c6_4 : KC := (.ops [⟨⟨(some 32), (.op (.mv (.t 7))), none⟩, .no⟩, ⟨⟨(some 6), (.op (.mv (.t 32))), none⟩, .no⟩])
def c6_5 : KC := .ret
def c6_6 : KC := (.seq c6_4 c6_5)
def c6_7 : KC := .skip
def c6_8 : KC := (.cond (.t 31) c6_6 c6_7)
def c6_9 : KC := (.seq c6_3 c6_8)
def c6_10 : KC := (.ops [⟨⟨(some 33), (.op (.mv (.t 2))), none⟩, .no⟩, ⟨⟨(some 34), (.op (.cvi .i64 (.t 33))), none⟩, .no⟩, ⟨⟨(some 35), (.op (.mv (.t 1))), none⟩, .no⟩, ⟨⟨(some 36), (.op (.len (.t 35))), none⟩, .no⟩, ⟨⟨(some 37), (.op (.bin .rem (.t 34) (.t 36))), none⟩, .no⟩, ⟨⟨(some 8), (.op (.mv (.t 37))), none⟩, .no⟩])
def c6_11 : KC := (.par 1 [⟨⟨(some 39), (.op (.load true 3 (.t 3))), none⟩, (.agg [(.int .i64), (.int .i64), .bool])⟩, ⟨⟨(some 40), (.op (.mv (.t 1))), none⟩, .no⟩, ⟨⟨(some 41), (.op (.mv (.t 8))), none⟩, .no⟩, ⟨⟨(some 42), (.op (.slS 2 (.t 40) none (some (.t 41)) none)), none⟩, .no⟩, ⟨⟨(some 43), (.scall 17 [(.t 39), (.t 42)]), none⟩, (.tup [(.agg [(.int .i64), (.int .i64), .bool]), (.leaf (.int .i64)), (.leaf .bool)])⟩, ⟨⟨(some 38), (.op (.mv (.t 43))), none⟩, .no⟩, ⟨⟨(some 44), (.op (.ext 0 (.t 38))), none⟩, .no⟩, ⟨⟨(some 45), (.op (.ext 1 (.t 38))), none⟩, .no⟩, ⟨⟨(some 46), (.op (.ext 2 (.t 38))), none⟩, .no⟩, ⟨⟨(some 9), (.op (.allocR 0 [(.int .i64 0), (.int .i64 0), (.bool false)])), none⟩, .no⟩, ⟨⟨none, (.op (.store 3 (.t 9) (.t 44))), none⟩, .no⟩, ⟨⟨(some 10), (.op (.mv (.t 45))), none⟩, .no⟩, ⟨⟨(some 11), (.op (.mv (.t 46))), none⟩, .no⟩])
def c6_12 : KC := (.par 1 [⟨⟨(some 48), (.op (.load true 3 (.t 9))), none⟩, (.agg [(.int .i64), (.int .i64), .bool])⟩, ⟨⟨(some 49), (.op (.mv (.t 1))), none⟩, .no⟩, ⟨⟨(some 50), (.op (.mv (.t 8))), none⟩, .no⟩, ⟨⟨(some 51), (.op (.slS 2 (.t 49) (some (.t 50)) none none)), none⟩, .no⟩, ⟨⟨(some 52), (.scall 17 [(.t 48), (.t 51)]), none⟩, (.tup [(.agg [(.int .i64), (.int .i64), .bool]), (.leaf (.int .i64)), (.leaf .bool)])⟩, ⟨⟨(some 47), (.op (.mv (.t 52))), none⟩, .no⟩, ⟨⟨(some 53), (.op (.ext 0 (.t 47))), none⟩, .no⟩, ⟨⟨(some 54), (.op (.ext 1 (.t 47))), none⟩, .no⟩, ⟨⟨(some 55), (.op (.ext 2 (.t 47))), none⟩, .no⟩, ⟨⟨(some 12), (.op (.allocR 0 [(.int .i64 0), (.int .i64 0), (.bool false)])), none⟩, .no⟩, ⟨⟨none, (.op (.store 3 (.t 12) (.t 53))), none⟩, .no⟩, ⟨⟨(some 13), (.op (.mv (.t 54))), none⟩, .no⟩, ⟨⟨(some 14), (.op (.mv (.t 55))), none⟩, .no⟩])
def c6_13 : KC := (.ops [⟨⟨(some 57), (.op (.load true 3 (.t 3))), none⟩, (.agg [(.int .i64), (.int .i64), .bool])⟩, ⟨⟨(some 58), (.op (.load true 3 (.t 9))), none⟩, (.agg [(.int .i64), (.int .i64), .bool])⟩, ⟨⟨(some 59), (.scall 14 [(.t 57), (.t 58)]), none⟩, (.tup [(.leaf (.int .i64)), (.leaf (.int .i64))])⟩, ⟨⟨(some 56), (.op (.mv (.t 59))), none⟩, .no⟩, ⟨⟨(some 60), (.op (.ext 0 (.t 56))), none⟩, .no⟩, ⟨⟨(some 61), (.op (.ext 1 (.t 56))), none⟩, .no⟩, ⟨⟨(some 15), (.op (.mv (.t 60))), none⟩, .no⟩, ⟨⟨(some 16), (.op (.mv (.t 61))), none⟩, .no⟩])
def c6_14 : KC := (.ops [⟨⟨(some 63), (.op (.load true 3 (.t 9))), none⟩, (.agg [(.int .i64), (.int .i64), .bool])⟩, ⟨⟨(some 64), (.op (.load true 3 (.t 12))), none⟩, (.agg [(.int .i64), (.int .i64), .bool])⟩, ⟨⟨(some 65), (.scall 14 [(.t 63), (.t 64)]), none⟩, (.tup [(.leaf (.int .i64)), (.leaf (.int .i64))])⟩, ⟨⟨(some 62), (.op (.mv (.t 65))), none⟩, .no⟩, ⟨⟨(some 66), (.op (.ext 0 (.t 62))), none⟩, .no⟩, ⟨⟨(some 67), (.op (.ext 1 (.t 62))), none⟩, .no⟩, ⟨⟨(some 17), (.op (.mv (.t 66))), none⟩, .no⟩, ⟨⟨(some 18), (.op (.mv (.t 67))), none⟩, .no⟩])
def c6_15 : KC := (.ops [⟨⟨(some 69), (.op (.load true 3 (.t 3))), none⟩, (.agg [(.int .i64), (.int .i64), .bool])⟩, ⟨⟨(some 70), (.op (.load true 3 (.t 12))), none⟩, (.agg [(.int .i64), (.int .i64), .bool])⟩, ⟨⟨(some 71), (.scall 14 [(.t 69), (.t 70)]), none⟩, (.tup [(.leaf (.int .i64)), (.leaf (.int .i64))])⟩, ⟨⟨(some 68), (.op (.mv (.t 71))), none⟩, .no⟩, ⟨⟨(some 72), (.op (.ext 0 (.t 68))), none⟩, .no⟩, ⟨⟨(some 73), (.op (.ext 1 (.t 68))), none⟩, .no⟩, ⟨⟨(some 19), (.op (.mv (.t 72))), none⟩, .no⟩, ⟨⟨(some 20), (.op (.mv (.t 73))), none⟩, .no⟩])
def c6_16 : KC := (.ops [⟨⟨(some 74), (.op (.mv (.t 7))), none⟩, .no⟩, ⟨⟨(some 75), (.op (.mv (.t 74))), none⟩, .no⟩, ⟨⟨(some 76), (.op (.mv (.t 11))), (some (75, true))⟩, .no⟩, ⟨⟨(some 77), (.op (.pick (.t 75) (.t 76) (.c (.bool false)))), none⟩, .no⟩, ⟨⟨(some 78), (.op (.mv (.t 77))), none⟩, .no⟩, ⟨⟨(some 79), (.op (.mv (.t 14))), (some (78, true))⟩, .no⟩, ⟨⟨(some 80), (.op (.pick (.t 78) (.t 79) (.c (.bool false)))), none⟩, .no⟩, ⟨⟨(some 81), (.op (.mv (.t 80))), none⟩, .no⟩, ⟨⟨(some 82), (.op (.mv (.t 16))), (some (81, true))⟩, .no⟩, ⟨⟨(some 83), (.op (.bin .eql (.t 82) (.c (.int .i64 0)))), (some (81, true))⟩, .no⟩, ⟨⟨(some 84), (.op (.pick (.t 81) (.t 83) (.c (.bool false)))), none⟩, .no⟩, ⟨⟨(some 85), (.op (.mv (.t 84))), none⟩, .no⟩, ⟨⟨(some 86), (.op (.mv (.t 18))), (some (85, true))⟩, .no⟩, ⟨⟨(some 87), (.op (.bin .eql (.t 86) (.c (.int .i64 0)))), (some (85, true))⟩, .no⟩, ⟨⟨(some 88), (.op (.pick (.t 85) (.t 87) (.c (.bool false)))), none⟩, .no⟩, ⟨⟨(some 89), (.op (.mv (.t 88))), none⟩, .no⟩, ⟨⟨(some 90), (.op (.mv (.t 20))), (some (89, true))⟩, .no⟩, ⟨⟨(some 91), (.op (.bin .eql (.t 90) (.c (.int .i64 0)))), (some (89, true))⟩, .no⟩, ⟨⟨(some 92), (.op (.pick (.t 89) (.t 91) (.c (.bool false)))), none⟩, .no⟩, ⟨⟨(some 93), (.op (.mv (.t 92))), none⟩, .no⟩, ⟨⟨(some 94), (.op (.mv (.t 15))), (some (93, true))⟩, .no⟩, ⟨⟨(some 95), (.op (.mv (.t 17))), (some (93, true))⟩, .no⟩, ⟨⟨(some 96), (.op (.bin .add (.t 94) (.t 95))), (some (93, true))⟩, .no⟩, ⟨⟨(some 97), (.op (.mv (.t 19))), (some (93, true))⟩, .no⟩, ⟨⟨(some 98), (.op (.bin .leq (.t 96) (.t 97))), (some (93, true))⟩, .no⟩, ⟨⟨(some 99), (.op (.pick (.t 93) (.t 98) (.c (.bool false)))), none⟩, .no⟩, ⟨⟨(some 100), (.op (.mv (.t 99))), none⟩, .no⟩, ⟨⟨(some 101), (.op (.mv (.t 19))), (some (100, true))⟩, .no⟩, ⟨⟨(some 102), (.op (.mv (.t 15))), (some (100, true))⟩, .no⟩, ⟨⟨(some 103), (.op (.mv (.t 17))), (some (100, true))⟩, .no⟩, ⟨⟨(some 104), (.op (.bin .add (.t 102) (.t 103))), (some (100, true))⟩, .no⟩, ⟨⟨(some 105), (.op (.bin .add (.t 104) (.c (.int .i64 1)))), (some (100, true))⟩, .no⟩, ⟨⟨(some 106), (.op (.bin .leq (.t 101) (.t 105))), (some (100, true))⟩, .no⟩, ⟨⟨(some 107), (.op (.pick (.t 100) (.t 106) (.c (.bool false)))), none⟩, .no⟩, ⟨⟨(some 6), (.op (.mv (.t 107))), none⟩, .no⟩])
def c6_17 : KC := .ret
def c6_18 : KC := (.seq c6_16 c6_17)
def c6_19 : KC := (.seq c6_15 c6_18)
def c6_20 : KC := (.seq c6_14 c6_19)
def c6_21 : KC := (.seq c6_13 c6_20)
def c6_22 : KC := (.seq c6_12 c6_21)
def c6_23 : KC := (.seq c6_11 c6_22)
def c6_24 : KC := (.seq c6_10 c6_23)
def c6_25 : KC := (.seq c6_9 c6_24)
def c6_26 : KC := (.seq c6_2 c6_25)
def c6_27 : KC := (.seq c6_1 c6_26)
def c6_28 : KC := (.seq c6_0 c6_27)
def kf6 : KF := ⟨108, [(.tmp 6 none)], c6_28⟩
def kl6 : List (Nat × TI) := []
def kt6 : List (Nat × TI) := []
def c7_0 : KC := (.ops [⟨⟨(some 4), (.op (.box (.t 0))), none⟩, .no⟩, ⟨⟨(some 8), (.op (.mv (.c (.bool false)))), none⟩, .no⟩])
def c7_1 : KC := (.ops [⟨⟨(some 21), (.scall 9 []), none⟩, (.leaf .bool)⟩, ⟨⟨(some 9), (.op (.mv (.t 21))), none⟩, .no⟩])
def c7_2 : KC := (.ops [⟨⟨(some 23), (.op (.load true 3 (.t 4))), none⟩, (.agg [(.int .i64), (.int .i64), .bool])⟩, ⟨⟨(some 24), (.op (.mv (.t 1))), none⟩, .no⟩, ⟨⟨(some 25), (.op (.mv (.t 2))), none⟩, .no⟩, ⟨⟨(some 26), (.scall 12 [(.t 23), (.t 24), (.t 25)]), none⟩, (.tup [(.agg [(.int .i64), (.int .i64), .bool]), (.leaf (.int .i64))])⟩, ⟨⟨(some 22), (.op (.mv (.t 26))), none⟩, .no⟩, ⟨⟨(some 27), (.op (.ext 0 (.t 22))), none⟩, .no⟩, ⟨⟨(some 28), (.op (.ext 1 (.t 22))), none⟩, .no⟩, ⟨⟨(some 10), (.op (.alloc [(.int .i64 0), (.int .i64 0), (.bool false)])), none⟩, .no⟩, ⟨⟨none, (.op (.store 3 (.t 10) (.t 27))), none⟩, .no⟩, ⟨⟨(some 11), (.op (.mv (.t 28))), none⟩, .no⟩])
def c7_3 : KC := (.ops [⟨⟨(some 29), (.op (.mv (.t 11))), none⟩, .no⟩, ⟨⟨(some 30), (.op (.bin .neq (.t 29) (.c (.int .i64 0)))), none⟩, .no⟩, ⟨⟨(some 31), (.op (.mv (.t 30))), none⟩, .no⟩, ⟨⟨(some 32), (.op (.load true 3 (.t 10))), (some (31, false))⟩, (.agg [(.int .i64), (.int .i64), .bool])⟩, ⟨⟨(some 33), (.op (.mv (.t 3))), (some (31, false))⟩, .no⟩, ⟨⟨(some 34), (.scall 16 [(.t 32), (.t 33)]), (some (31, false))⟩, (.leaf .bool)⟩, ⟨⟨(some 35), (.op (.un .not (.t 34))), (some (31, false))⟩, .no⟩, ⟨⟨(some 36), (.op (.pick (.t 31) (.c (.bool true)) (.t 35))), none⟩, .no⟩])
def c7_4 : KC := (.ops [⟨⟨(some 37), (.op (.mv (.t 9))), none⟩, .no⟩, ⟨⟨(some 8), (.op (.mv (.t 37))), none⟩, .no⟩])
def c7_5 : KC := .ret
def c7_6 : KC := (.seq c7_4 c7_5)
def c7_7 : KC := .skip
def c7_8 : KC := (.cond (.t 36) c7_6 c7_7)
def c7_9 : KC := (.seq c7_3 c7_8)
def c7_10 : KC := (.ops [⟨⟨(some 39), (.op (.load true 3 (.t 10))), none⟩, (.agg [(.int .i64), (.int .i64), .bool])⟩, ⟨⟨(some 40), (.op (.mv (.t 3))), none⟩, .no⟩, ⟨⟨(some 41), (.scall 17 [(.t 39), (.t 40)]), none⟩, (.tup [(.agg [(.int .i64), (.int .i64), .bool]), (.leaf (.int .i64)), (.leaf .bool)])⟩, ⟨⟨(some 38), (.op (.mv (.t 41))), none⟩, .no⟩, ⟨⟨(some 42), (.op (.ext 0 (.t 38))), none⟩, .no⟩, ⟨⟨(some 43), (.op (.ext 1 (.t 38))), none⟩, .no⟩, ⟨⟨(some 44), (.op (.ext 2 (.t 38))), none⟩, .no⟩, ⟨⟨(some 12), (.op (.alloc [(.int .i64 0), (.int .i64 0), (.bool false)])), none⟩, .no⟩, ⟨⟨none, (.op (.store 3 (.t 12) (.t 42))), none⟩, .no⟩, ⟨⟨(some 13), (.op (.mv (.t 43))), none⟩, .no⟩, ⟨⟨(some 14), (.op (.mv (.t 44))), none⟩, .no⟩])
def c7_11 : KC := (.ops [⟨⟨(some 46), (.op (.load true 3 (.t 4))), none⟩, (.agg [(.int .i64), (.int .i64), .bool])⟩, ⟨⟨(some 47), (.op (.load true 3 (.t 12))), none⟩, (.agg [(.int .i64), (.int .i64), .bool])⟩, ⟨⟨(some 48), (.scall 14 [(.t 46), (.t 47)]), none⟩, (.tup [(.leaf (.int .i64)), (.leaf (.int .i64))])⟩, ⟨⟨(some 45), (.op (.mv (.t 48))), none⟩, .no⟩, ⟨⟨(some 49), (.op (.ext 0 (.t 45))), none⟩, .no⟩, ⟨⟨(some 50), (.op (.ext 1 (.t 45))), none⟩, .no⟩, ⟨⟨(some 15), (.op (.mv (.t 49))), none⟩, .no⟩, ⟨⟨(some 16), (.op (.mv (.t 50))), none⟩, .no⟩])
def c7_12 : KC := (.ops [⟨⟨(some 52), (.op (.load true 3 (.t 12))), none⟩, (.agg [(.int .i64), (.int .i64), .bool])⟩, ⟨⟨(some 53), (.op (.load true 3 (.t 4))), none⟩, (.agg [(.int .i64), (.int .i64), .bool])⟩, ⟨⟨(some 54), (.scall 14 [(.t 52), (.t 53)]), none⟩, (.tup [(.leaf (.int .i64)), (.leaf (.int .i64))])⟩, ⟨⟨(some 51), (.op (.mv (.t 54))), none⟩, .no⟩, ⟨⟨(some 55), (.op (.ext 0 (.t 51))), none⟩, .no⟩, ⟨⟨(some 56), (.op (.ext 1 (.t 51))), none⟩, .no⟩, ⟨⟨(some 17), (.op (.mv (.t 55))), none⟩, .no⟩, ⟨⟨(some 18), (.op (.mv (.t 56))), none⟩, .no⟩])
def c7_13 : KC := (.ops [⟨⟨(some 58), (.op (.load true 3 (.t 10))), none⟩, (.agg [(.int .i64), (.int .i64), .bool])⟩, ⟨⟨(some 59), (.op (.load true 3 (.t 12))), none⟩, (.agg [(.int .i64), (.int .i64), .bool])⟩, ⟨⟨(some 60), (.scall 14 [(.t 58), (.t 59)]), none⟩, (.tup [(.leaf (.int .i64)), (.leaf (.int .i64))])⟩, ⟨⟨(some 57), (.op (.mv (.t 60))), none⟩, .no⟩, ⟨⟨(some 61), (.op (.ext 0 (.t 57))), none⟩, .no⟩, ⟨⟨(some 62), (.op (.ext 1 (.t 57))), none⟩, .no⟩, ⟨⟨(some 19), (.op (.mv (.t 61))), none⟩, .no⟩, ⟨⟨(some 20), (.op (.mv (.t 62))), none⟩, .no⟩])
def c7_14 : KC := (.ops [⟨⟨(some 63), (.op (.mv (.t 9))), none⟩, .no⟩, ⟨⟨(some 64), (.op (.mv (.t 63))), none⟩, .no⟩, ⟨⟨(some 65), (.op (.mv (.t 14))), (some (64, true))⟩, .no⟩, ⟨⟨(some 66), (.op (.pick (.t 64) (.t 65) (.c (.bool false)))), none⟩, .no⟩, ⟨⟨(some 67), (.op (.mv (.t 66))), none⟩, .no⟩, ⟨⟨(some 68), (.op (.load true 3 (.t 10))), (some (67, true))⟩, (.agg [(.int .i64), (.int .i64), .bool])⟩, ⟨⟨(some 69), (.op (.mv (.t 1))), (some (67, true))⟩, .no⟩, ⟨⟨(some 70), (.op (.mv (.t 2))), (some (67, true))⟩, .no⟩, ⟨⟨(some 71), (.op (.build [(.int .i64 0), (.int .i64 0), (.bool false)] [(0, (1, (.t 69))), (1, (1, (.t 70)))])), (some (67, true))⟩, .no⟩, ⟨⟨(some 72), (.op (.eqs false [(0, .i), (1, .i), (2, .b)] (.t 68) (.t 71))), (some (67, true))⟩, .no⟩, ⟨⟨(some 73), (.op (.pick (.t 67) (.t 72) (.c (.bool false)))), none⟩, .no⟩, ⟨⟨(some 74), (.op (.mv (.t 73))), none⟩, .no⟩, ⟨⟨(some 75), (.op (.mv (.t 16))), (some (74, true))⟩, .no⟩, ⟨⟨(some 76), (.op (.bin .eql (.t 75) (.c (.int .i64 4)))), (some (74, true))⟩, .no⟩, ⟨⟨(some 77), (.op (.pick (.t 74) (.t 76) (.c (.bool false)))), none⟩, .no⟩, ⟨⟨(some 78), (.op (.mv (.t 77))), none⟩, .no⟩, ⟨⟨(some 79), (.op (.mv (.t 18))), (some (78, true))⟩, .no⟩, ⟨⟨(some 80), (.op (.bin .eql (.t 79) (.c (.int .i64 4)))), (some (78, true))⟩, .no⟩, ⟨⟨(some 81), (.op (.pick (.t 78) (.t 80) (.c (.bool false)))), none⟩, .no⟩, ⟨⟨(some 82), (.op (.mv (.t 81))), none⟩, .no⟩, ⟨⟨(some 83), (.op (.mv (.t 20))), (some (82, true))⟩, .no⟩, ⟨⟨(some 84), (.op (.bin .eql (.t 83) (.c (.int .i64 0)))), (some (82, true))⟩, .no⟩, ⟨⟨(some 85), (.op (.pick (.t 82) (.t 84) (.c (.bool false)))), none⟩, .no⟩, ⟨⟨(some 8), (.op (.mv (.t 85))), none⟩, .no⟩])
def c7_15 : KC := .ret
def c7_16 : KC := (.seq c7_14 c7_15)
def c7_17 : KC := (.seq c7_13 c7_16)
def c7_18 : KC := (.seq c7_12 c7_17)
def c7_19 : KC := (.seq c7_11 c7_18)
def c7_20 : KC := (.seq c7_10 c7_19)
def c7_21 : KC := (.seq c7_9 c7_20)
def c7_22 : KC := (.seq c7_2 c7_21)
def c7_23 : KC := (.seq c7_1 c7_22)
def c7_24 : KC := (.seq c7_0 c7_23)
def kf7 : KF := ⟨86, [(.tmp 8 none)], c7_24⟩
def kl7 : List (Nat × TI) := []
def kt7 : List (Nat × TI) := []
def c8_0 : KC := (.ops [⟨⟨(some 4), (.op (.box (.t 0))), none⟩, .no⟩, ⟨⟨(some 8), (.op (.mv (.c (.bool false)))), none⟩, .no⟩])
def c8_1 : KC := (.ops [⟨⟨(some 18), (.scall 9 []), none⟩, (.leaf .bool)⟩, ⟨⟨(some 9), (.op (.mv (.t 18))), none⟩, .no⟩])
def c8_2 : KC := (.ops [⟨⟨(some 19), (.op (.fadr 2 (.t 4))), none⟩, .no⟩, ⟨⟨none, (.op (.store 1 (.t 19) (.c (.bool false)))), none⟩, .no⟩])
def c8_3 : KC := (.ops [⟨⟨(some 20), (.op (.load true 3 (.t 4))), none⟩, (.agg [(.int .i64), (.int .i64), .bool])⟩, ⟨⟨(some 21), (.scall 16 [(.t 20), (.c (.lst 2 0 [] true))]), none⟩, (.leaf .bool)⟩, ⟨⟨(some 22), (.op (.un .not (.t 21))), none⟩, .no⟩])
def c8_4 : KC := (.ops [⟨⟨(some 23), (.op (.mv (.t 9))), none⟩, .no⟩, ⟨⟨(some 8), (.op (.mv (.t 23))), none⟩, .no⟩])
def c8_5 : KC := .ret
def c8_6 : KC := (.seq c8_4 c8_5)
def c8_7 : KC := .skip
def c8_8 : KC := (.cond (.t 22) c8_6 c8_7)
def c8_9 : KC := (.seq c8_3 c8_8)
def c8_10 : KC := (.ops [⟨⟨(some 24), (.op (.mv (.t 1))), none⟩, .no⟩, ⟨⟨(some 25), (.op (.cvi .i64 (.t 24))), none⟩, .no⟩, ⟨⟨(some 26), (.op (.bin .rem (.t 25) (.c (.int .i64 81)))), none⟩, .no⟩, ⟨⟨(some 27), (.op (.mv (.t 2))), none⟩, .no⟩, ⟨⟨(some 28), (.op (.cvi .i64 (.t 27))), none⟩, .no⟩, ⟨⟨(some 29), (.op (.bin .rem (.t 28) (.c (.int .i64 4)))), none⟩, .no⟩, ⟨⟨(some 30), (.op (.mv (.t 3))), none⟩, .no⟩, ⟨⟨(some 31), (.op (.cvi .i64 (.t 30))), none⟩, .no⟩, ⟨⟨(some 32), (.op (.bin .rem (.t 31) (.c (.int .i64 4)))), none⟩, .no⟩, ⟨⟨(some 10), (.op (.mv (.t 26))), none⟩, .no⟩, ⟨⟨(some 11), (.op (.mv (.t 29))), none⟩, .no⟩, ⟨⟨(some 12), (.op (.mv (.t 32))), none⟩, .no⟩])
def c8_11 : KC := (.ops [⟨⟨(some 33), (.op (.load true 3 (.t 4))), none⟩, (.agg [(.int .i64), (.int .i64), .bool])⟩, ⟨⟨(some 13), (.op (.alloc [(.int .i64 0), (.int .i64 0), (.bool false)])), none⟩, .no⟩, ⟨⟨none, (.op (.store 3 (.t 13) (.t 33))), none⟩, .no⟩])
def c8_12 : KC := (.ops [⟨⟨(some 34), (.op (.mv (.t 12))), none⟩, .no⟩, ⟨⟨(some 35), (.op (.bin .mul (.c (.int .i64 360)) (.t 34))), none⟩, .no⟩, ⟨⟨(some 36), (.op (.mv (.c (.int .i64 0)))), none⟩, .no⟩])
def c8_13 : KC := (.ops [⟨⟨(some 37), (.op (.bin .lss (.t 36) (.t 35))), none⟩, .no⟩])
def c8_14 : KC := .skip
def c8_15 : KC := (.exit 0)
def c8_16 : KC := (.cond (.t 37) c8_14 c8_15)
def c8_17 : KC := (.ops [⟨⟨(some 39), (.op (.load true 3 (.t 13))), none⟩, (.agg [(.int .i64), (.int .i64), .bool])⟩, ⟨⟨(some 40), (.op (.mv (.t 10))), none⟩, .no⟩, ⟨⟨(some 41), (.op (.mv (.t 11))), none⟩, .no⟩, ⟨⟨(some 42), (.scall 10 [(.t 39), (.t 40), (.t 41)]), none⟩, (.tup [(.agg [(.int .i64), (.int .i64), .bool]), (.leaf (.int .i64))])⟩, ⟨⟨(some 38), (.op (.mv (.t 42))), none⟩, .no⟩, ⟨⟨(some 43), (.op (.ext 0 (.t 38))), none⟩, .no⟩, ⟨⟨(some 44), (.op (.ext 1 (.t 38))), none⟩, .no⟩, ⟨⟨(some 14), (.op (.alloc [(.int .i64 0), (.int .i64 0), (.bool false)])), none⟩, .no⟩, ⟨⟨none, (.op (.store 3 (.t 14) (.t 43))), none⟩, .no⟩, ⟨⟨(some 15), (.op (.mv (.t 44))), none⟩, .no⟩])
def c8_18 : KC := (.ops [⟨⟨(some 45), (.op (.mv (.t 15))), none⟩, .no⟩, ⟨⟨(some 46), (.op (.bin .neq (.t 45) (.c (.int .i64 0)))), none⟩, .no⟩])
def c8_19 : KC := (.ops [⟨⟨(some 8), (.op (.mv (.c (.bool false)))), none⟩, .no⟩])
def c8_20 : KC := .ret
def c8_21 : KC := (.seq c8_19 c8_20)
def c8_22 : KC := .skip
def c8_23 : KC := (.cond (.t 46) c8_21 c8_22)
def c8_24 : KC := (.seq c8_18 c8_23)
def c8_25 : KC := (.ops [⟨⟨(some 47), (.op (.load true 3 (.t 14))), none⟩, (.agg [(.int .i64), (.int .i64), .bool])⟩, ⟨⟨none, (.op (.store 3 (.t 13) (.t 47))), none⟩, .no⟩])
def c8_26 : KC := (.seq c8_24 c8_25)
def c8_27 : KC := (.seq c8_17 c8_26)
def c8_28 : KC := (.block 1 c8_27)
def c8_29 : KC := (.ops [⟨⟨(some 48), (.op (.bin .add (.t 36) (.c (.int .i64 1)))), none⟩, .no⟩, ⟨⟨(some 36), (.op (.mv (.t 48))), none⟩, .no⟩])
def c8_30 : KC := (.seq c8_28 c8_29)
def c8_31 : KC := (.seq c8_16 c8_30)
def c8_32 : KC := (.seq c8_13 c8_31)
def ti8_33 : TI := ⟨[4, 9, 10, 11, 12, 13, 35, 36], [8], [], []⟩
def c8_33 : KC := (.loop ti8_33 [] c8_32)
def c8_34 : KC := (.block 0 c8_33)
def c8_35 : KC := (.seq c8_12 c8_34)
def c8_36 : KC := (.ops [⟨⟨(some 50), (.op (.load true 3 (.t 4))), none⟩, (.agg [(.int .i64), (.int .i64), .bool])⟩, ⟨⟨(some 51), (.op (.load true 3 (.t 13))), none⟩, (.agg [(.int .i64), (.int .i64), .bool])⟩, ⟨⟨(some 52), (.scall 14 [(.t 50), (.t 51)]), none⟩, (.tup [(.leaf (.int .i64)), (.leaf (.int .i64))])⟩, ⟨⟨(some 49), (.op (.mv (.t 52))), none⟩, .no⟩, ⟨⟨(some 53), (.op (.ext 0 (.t 49))), none⟩, .no⟩, ⟨⟨(some 54), (.op (.ext 1 (.t 49))), none⟩, .no⟩, ⟨⟨(some 16), (.op (.mv (.t 53))), none⟩, .no⟩, ⟨⟨(some 17), (.op (.mv (.t 54))), none⟩, .no⟩])
def c8_37 : KC := (.ops [⟨⟨(some 55), (.op (.mv (.t 9))), none⟩, .no⟩, ⟨⟨(some 56), (.op (.mv (.t 55))), none⟩, .no⟩, ⟨⟨(some 57), (.op (.mv (.t 17))), (some (56, true))⟩, .no⟩, ⟨⟨(some 58), (.op (.bin .eql (.t 57) (.c (.int .i64 0)))), (some (56, true))⟩, .no⟩, ⟨⟨(some 59), (.op (.pick (.t 56) (.t 58) (.c (.bool false)))), none⟩, .no⟩, ⟨⟨(some 60), (.op (.mv (.t 59))), none⟩, .no⟩, ⟨⟨(some 61), (.op (.mv (.t 16))), (some (60, true))⟩, .no⟩, ⟨⟨(some 62), (.op (.mv (.t 10))), (some (60, true))⟩, .no⟩, ⟨⟨(some 63), (.op (.bin .mul (.c (.int .i64 230)) (.t 62))), (some (60, true))⟩, .no⟩, ⟨⟨(some 64), (.op (.mv (.t 11))), (some (60, true))⟩, .no⟩, ⟨⟨(some 65), (.op (.bin .mul (.t 63) (.t 64))), (some (60, true))⟩, .no⟩, ⟨⟨(some 66), (.op (.mv (.t 12))), (some (60, true))⟩, .no⟩, ⟨⟨(some 67), (.op (.bin .mul (.t 65) (.t 66))), (some (60, true))⟩, .no⟩, ⟨⟨(some 68), (.op (.bin .eql (.t 61) (.t 67))), (some (60, true))⟩, .no⟩, ⟨⟨(some 69), (.op (.pick (.t 60) (.t 68) (.c (.bool false)))), none⟩, .no⟩, ⟨⟨(some 8), (.op (.mv (.t 69))), none⟩, .no⟩])
def c8_38 : KC := .ret
def c8_39 : KC := (.seq c8_37 c8_38)
def c8_40 : KC := (.seq c8_36 c8_39)
def c8_41 : KC := (.seq c8_35 c8_40)
def c8_42 : KC := (.seq c8_11 c8_41)
def c8_43 : KC := (.seq c8_10 c8_42)
def c8_44 : KC := (.seq c8_9 c8_43)
def c8_45 : KC := (.seq c8_2 c8_44)
def c8_46 : KC := (.seq c8_1 c8_45)
def c8_47 : KC := (.seq c8_0 c8_46)
def kf8 : KF := ⟨70, [(.tmp 8 none)], c8_47⟩
def kl8 : List (Nat × TI) := [(8, ti8_33)]
def kt8 : List (Nat × TI) := []
def c9_0 : KC := (.ops [⟨⟨(some 0), (.op (.mv (.c (.bool false)))), none⟩, .no⟩])
def c9_1 : KC := (.ops [⟨⟨(some 19), (.op (.build [(.int .i64 0), (.int .i64 0), (.bool false)] [(1, (1, (.c (.int .i64 100))))])), none⟩, .no⟩, ⟨⟨(some 20), (.scall 10 [(.t 19), (.c (.int .i64 16)), (.c (.int .i64 3))]), none⟩, (.tup [(.agg [(.int .i64), (.int .i64), .bool]), (.leaf (.int .i64))])⟩, ⟨⟨(some 18), (.op (.mv (.t 20))), none⟩, .no⟩, ⟨⟨(some 21), (.op (.ext 0 (.t 18))), none⟩, .no⟩, ⟨⟨(some 22), (.op (.ext 1 (.t 18))), none⟩, .no⟩, ⟨⟨(some 1), (.op (.alloc [(.int .i64 0), (.int .i64 0), (.bool false)])), none⟩, .no⟩, ⟨⟨none, (.op (.store 3 (.t 1) (.t 21))), none⟩, .no⟩, ⟨⟨(some 2), (.op (.mv (.t 22))), none⟩, .no⟩])
def c9_2 : KC := (.ops [⟨⟨(some 24), (.op (.build [(.int .i64 0), (.int .i64 0), (.bool false)] [(1, (1, (.c (.int .i64 100)))), (2, (1, (.c (.bool true))))])), none⟩, .no⟩, ⟨⟨(some 25), (.scall 10 [(.t 24), (.c (.int .i64 16)), (.c (.int .i64 3))]), none⟩, (.tup [(.agg [(.int .i64), (.int .i64), .bool]), (.leaf (.int .i64))])⟩, ⟨⟨(some 23), (.op (.mv (.t 25))), none⟩, .no⟩, ⟨⟨(some 26), (.op (.ext 0 (.t 23))), none⟩, .no⟩, ⟨⟨(some 27), (.op (.ext 1 (.t 23))), none⟩, .no⟩, ⟨⟨(some 3), (.op (.alloc [(.int .i64 0), (.int .i64 0), (.bool false)])), none⟩, .no⟩, ⟨⟨none, (.op (.store 3 (.t 3) (.t 26))), none⟩, .no⟩, ⟨⟨(some 4), (.op (.mv (.t 27))), none⟩, .no⟩])
def c9_3 : KC := (.ops [⟨⟨(some 29), (.op (.build [(.int .i64 0), (.int .i64 0), (.bool false)] [])), none⟩, .no⟩, ⟨⟨(some 30), (.op (.build [(.int .i64 0), (.int .i64 0), (.bool false)] [(1, (1, (.c (.int .i64 7199))))])), none⟩, .no⟩, ⟨⟨(some 31), (.scall 14 [(.t 29), (.t 30)]), none⟩, (.tup [(.leaf (.int .i64)), (.leaf (.int .i64))])⟩, ⟨⟨(some 28), (.op (.mv (.t 31))), none⟩, .no⟩, ⟨⟨(some 32), (.op (.ext 0 (.t 28))), none⟩, .no⟩, ⟨⟨(some 33), (.op (.ext 1 (.t 28))), none⟩, .no⟩, ⟨⟨(some 5), (.op (.mv (.t 32))), none⟩, .no⟩, ⟨⟨(some 6), (.op (.mv (.t 33))), none⟩, .no⟩])
def c9_4 : KC := (.ops [⟨⟨(some 35), (.op (.build [(.int .i64 0), (.int .i64 0), (.bool false)] [])), none⟩, .no⟩, ⟨⟨(some 36), (.op (.build [(.int .i64 0), (.int .i64 0), (.bool false)] [(1, (1, (.c (.int .i64 7200))))])), none⟩, .no⟩, ⟨⟨(some 37), (.scall 14 [(.t 35), (.t 36)]), none⟩, (.tup [(.leaf (.int .i64)), (.leaf (.int .i64))])⟩, ⟨⟨(some 34), (.op (.mv (.t 37))), none⟩, .no⟩, ⟨⟨(some 38), (.op (.ext 0 (.t 34))), none⟩, .no⟩, ⟨⟨(some 39), (.op (.ext 1 (.t 34))), none⟩, .no⟩, ⟨⟨(some 7), (.op (.mv (.t 38))), none⟩, .no⟩, ⟨⟨(some 8), (.op (.mv (.t 39))), none⟩, .no⟩])
def c9_5 : KC := (.ops [⟨⟨(some 41), (.op (.build [(.int .i64 0), (.int .i64 0), (.bool false)] [(1, (1, (.c (.int .i64 5))))])), none⟩, .no⟩, ⟨⟨(some 42), (.op (.build [(.int .i64 0), (.int .i64 0), (.bool false)] [(1, (1, (.c (.int .i64 4))))])), none⟩, .no⟩, ⟨⟨(some 43), (.scall 14 [(.t 41), (.t 42)]), none⟩, (.tup [(.leaf (.int .i64)), (.leaf (.int .i64))])⟩, ⟨⟨(some 40), (.op (.mv (.t 43))), none⟩, .no⟩, ⟨⟨(some 44), (.op (.ext 0 (.t 40))), none⟩, .no⟩, ⟨⟨(some 45), (.op (.ext 1 (.t 40))), none⟩, .no⟩, ⟨⟨(some 9), (.op (.mv (.t 44))), none⟩, .no⟩, ⟨⟨(some 10), (.op (.mv (.t 45))), none⟩, .no⟩])
def c9_6 : KC := (.ops [⟨⟨(some 47), (.op (.build [(.int .i64 0), (.int .i64 0), (.bool false)] [])), none⟩, .no⟩, ⟨⟨(some 48), (.op (.build [(.int .i64 0), (.int .i64 0), (.bool false)] [(0, (1, (.c (.int .i64 1))))])), none⟩, .no⟩, ⟨⟨(some 49), (.scall 14 [(.t 47), (.t 48)]), none⟩, (.tup [(.leaf (.int .i64)), (.leaf (.int .i64))])⟩, ⟨⟨(some 46), (.op (.mv (.t 49))), none⟩, .no⟩, ⟨⟨(some 50), (.op (.ext 0 (.t 46))), none⟩, .no⟩, ⟨⟨(some 51), (.op (.ext 1 (.t 46))), none⟩, .no⟩, ⟨⟨(some 11), (.op (.mv (.t 50))), none⟩, .no⟩, ⟨⟨(some 12), (.op (.mv (.t 51))), none⟩, .no⟩])
def c9_7 : KC := (.ops [⟨⟨(some 53), (.op (.load true 3 (.t 3))), none⟩, (.agg [(.int .i64), (.int .i64), .bool])⟩, ⟨⟨(some 54), (.scall 12 [(.t 53), (.c (.int .i64 7)), (.c (.int .i64 30))]), none⟩, (.tup [(.agg [(.int .i64), (.int .i64), .bool]), (.leaf (.int .i64))])⟩, ⟨⟨(some 52), (.op (.mv (.t 54))), none⟩, .no⟩, ⟨⟨(some 55), (.op (.ext 0 (.t 52))), none⟩, .no⟩, ⟨⟨(some 56), (.op (.ext 1 (.t 52))), none⟩, .no⟩, ⟨⟨(some 13), (.op (.alloc [(.int .i64 0), (.int .i64 0), (.bool false)])), none⟩, .no⟩, ⟨⟨none, (.op (.store 3 (.t 13) (.t 55))), none⟩, .no⟩, ⟨⟨(some 14), (.op (.mv (.t 56))), none⟩, .no⟩])
def c9_8 : KC := (.ops [⟨⟨(some 58), (.op (.load true 3 (.t 3))), none⟩, (.agg [(.int .i64), (.int .i64), .bool])⟩, ⟨⟨(some 59), (.scall 12 [(.t 58), (.c (.int .i64 0)), (.c (.int .i64 30))]), none⟩, (.tup [(.agg [(.int .i64), (.int .i64), .bool]), (.leaf (.int .i64))])⟩, ⟨⟨(some 57), (.op (.mv (.t 59))), none⟩, .no⟩, ⟨⟨(some 60), (.op (.ext 0 (.t 57))), none⟩, .no⟩, ⟨⟨(some 61), (.op (.ext 1 (.t 57))), none⟩, .no⟩, ⟨⟨(some 15), (.op (.alloc [(.int .i64 0), (.int .i64 0), (.bool false)])), none⟩, .no⟩, ⟨⟨none, (.op (.store 3 (.t 15) (.t 60))), none⟩, .no⟩, ⟨⟨(some 16), (.op (.mv (.t 61))), none⟩, .no⟩])
def c9_9 : KC := (.ops [⟨⟨(some 62), (.op (.mv (.t 2))), none⟩, .no⟩, ⟨⟨(some 63), (.op (.bin .eql (.t 62) (.c (.int .i64 0)))), none⟩, .no⟩, ⟨⟨(some 64), (.op (.mv (.t 63))), none⟩, .no⟩, ⟨⟨(some 65), (.op (.mv (.t 4))), (some (64, true))⟩, .no⟩, ⟨⟨(some 66), (.op (.bin .eql (.t 65) (.c (.int .i64 0)))), (some (64, true))⟩, .no⟩, ⟨⟨(some 67), (.op (.pick (.t 64) (.t 66) (.c (.bool false)))), none⟩, .no⟩, ⟨⟨(some 68), (.op (.mv (.t 67))), none⟩, .no⟩, ⟨⟨(some 69), (.op (.mv (.t 6))), (some (68, true))⟩, .no⟩, ⟨⟨(some 70), (.op (.bin .eql (.t 69) (.c (.int .i64 0)))), (some (68, true))⟩, .no⟩, ⟨⟨(some 71), (.op (.pick (.t 68) (.t 70) (.c (.bool false)))), none⟩, .no⟩, ⟨⟨(some 72), (.op (.mv (.t 71))), none⟩, .no⟩, ⟨⟨(some 73), (.op (.mv (.t 8))), (some (72, true))⟩, .no⟩, ⟨⟨(some 74), (.op (.bin .eql (.t 73) (.c (.int .i64 0)))), (some (72, true))⟩, .no⟩, ⟨⟨(some 75), (.op (.pick (.t 72) (.t 74) (.c (.bool false)))), none⟩, .no⟩, ⟨⟨(some 76), (.op (.mv (.t 75))), none⟩, .no⟩, ⟨⟨(some 77), (.op (.mv (.t 10))), (some (76, true))⟩, .no⟩, ⟨⟨(some 78), (.op (.bin .eql (.t 77) (.c (.int .i64 11)))), (some (76, true))⟩, .no⟩, ⟨⟨(some 79), (.op (.pick (.t 76) (.t 78) (.c (.bool false)))), none⟩, .no⟩, ⟨⟨(some 80), (.op (.mv (.t 79))), none⟩, .no⟩, ⟨⟨(some 81), (.op (.mv (.t 12))), (some (80, true))⟩, .no⟩, ⟨⟨(some 82), (.op (.bin .eql (.t 81) (.c (.int .i64 4)))), (some (80, true))⟩, .no⟩, ⟨⟨(some 83), (.op (.pick (.t 80) (.t 82) (.c (.bool false)))), none⟩, .no⟩, ⟨⟨(some 84), (.op (.mv (.t 83))), none⟩, .no⟩, ⟨⟨(some 85), (.op (.mv (.t 14))), (some (84, true))⟩, .no⟩, ⟨⟨(some 86), (.op (.bin .eql (.t 85) (.c (.int .i64 0)))), (some (84, true))⟩, .no⟩, ⟨⟨(some 87), (.op (.pick (.t 84) (.t 86) (.c (.bool false)))), none⟩, .no⟩, ⟨⟨(some 88), (.op (.mv (.t 87))), none⟩, .no⟩, ⟨⟨(some 89), (.op (.mv (.t 16))), (some (88, true))⟩, .no⟩, ⟨⟨(some 90), (.op (.bin .eql (.t 89) (.c (.int .i64 5)))), (some (88, true))⟩, .no⟩, ⟨⟨(some 91), (.op (.pick (.t 88) (.t 90) (.c (.bool false)))), none⟩, .no⟩, ⟨⟨(some 17), (.op (.mv (.t 91))), none⟩, .no⟩])
def c9_10 : KC := (.ops [⟨⟨(some 92), (.op (.mv (.t 17))), none⟩, .no⟩, ⟨⟨(some 93), (.op (.mv (.t 92))), none⟩, .no⟩, ⟨⟨(some 94), (.op (.fadr 1 (.t 1))), (some (93, true))⟩, .no⟩, ⟨⟨(some 95), (.op (.load false 1 (.t 94))), (some (93, true))⟩, (.leaf (.int .i64))⟩, ⟨⟨(some 96), (.op (.bin .eql (.t 95) (.c (.int .i64 110500)))), (some (93, true))⟩, .no⟩, ⟨⟨(some 97), (.op (.pick (.t 93) (.t 96) (.c (.bool false)))), none⟩, .no⟩, ⟨⟨(some 98), (.op (.mv (.t 97))), none⟩, .no⟩, ⟨⟨(some 99), (.op (.fadr 1 (.t 3))), (some (98, true))⟩, .no⟩, ⟨⟨(some 100), (.op (.load false 1 (.t 99))), (some (98, true))⟩, (.leaf (.int .i64))⟩, ⟨⟨(some 101), (.op (.bin .eql (.t 100) (.c (.int .i64 (-110300))))), (some (98, true))⟩, .no⟩, ⟨⟨(some 102), (.op (.pick (.t 98) (.t 101) (.c (.bool false)))), none⟩, .no⟩, ⟨⟨(some 103), (.op (.mv (.t 102))), none⟩, .no⟩, ⟨⟨(some 104), (.op (.fadr 2 (.t 3))), (some (103, true))⟩, .no⟩, ⟨⟨(some 105), (.op (.load false 1 (.t 104))), (some (103, true))⟩, (.leaf .bool)⟩, ⟨⟨(some 106), (.op (.pick (.t 103) (.t 105) (.c (.bool false)))), none⟩, .no⟩, ⟨⟨(some 107), (.op (.mv (.t 106))), none⟩, .no⟩, ⟨⟨(some 108), (.op (.mv (.t 5))), (some (107, true))⟩, .no⟩, ⟨⟨(some 109), (.op (.bin .eql (.t 108) (.c (.int .i64 1)))), (some (107, true))⟩, .no⟩, ⟨⟨(some 110), (.op (.pick (.t 107) (.t 109) (.c (.bool false)))), none⟩, .no⟩, ⟨⟨(some 111), (.op (.mv (.t 110))), none⟩, .no⟩, ⟨⟨(some 112), (.op (.mv (.t 7))), (some (111, true))⟩, .no⟩, ⟨⟨(some 113), (.op (.bin .eql (.t 112) (.c (.int .i64 2)))), (some (111, true))⟩, .no⟩, ⟨⟨(some 114), (.op (.pick (.t 111) (.t 113) (.c (.bool false)))), none⟩, .no⟩, ⟨⟨(some 115), (.op (.mv (.t 114))), none⟩, .no⟩, ⟨⟨(some 116), (.op (.load true 3 (.t 13))), (some (115, true))⟩, (.agg [(.int .i64), (.int .i64), .bool])⟩, ⟨⟨(some 117), (.op (.build [(.int .i64 0), (.int .i64 0), (.bool false)] [(0, (1, (.c (.int .i64 7)))), (1, (1, (.c (.int .i64 30))))])), (some (115, true))⟩, .no⟩, ⟨⟨(some 118), (.op (.eqs false [(0, .i), (1, .i), (2, .b)] (.t 116) (.t 117))), (some (115, true))⟩, .no⟩, ⟨⟨(some 119), (.op (.pick (.t 115) (.t 118) (.c (.bool false)))), none⟩, .no⟩, ⟨⟨(some 0), (.op (.mv (.t 119))), none⟩, .no⟩])
def c9_11 : KC := .ret
def c9_12 : KC := (.seq c9_10 c9_11)
def c9_13 : KC := (.seq c9_9 c9_12)
def c9_14 : KC := (.seq c9_8 c9_13)
def c9_15 : KC := (.seq c9_7 c9_14)
def c9_16 : KC := (.seq c9_6 c9_15)
def c9_17 : KC := (.seq c9_5 c9_16)
def c9_18 : KC := (.seq c9_4 c9_17)
def c9_19 : KC := (.seq c9_3 c9_18)
def c9_20 : KC := (.seq c9_2 c9_19)
def c9_21 : KC := (.seq c9_1 c9_20)
def c9_22 : KC := (.seq c9_0 c9_21)
def kf9 : KF := ⟨120, [(.tmp 0 none)], c9_22⟩
def kl9 : List (Nat × TI) := []
def kt9 : List (Nat × TI) := []
def c10_0 : KC := (.ops [⟨⟨(some 3), (.op (.box (.t 0))), none⟩, .no⟩, ⟨⟨(some 6), (.op (.alloc [(.int .i64 0), (.int .i64 0), (.bool false)])), none⟩, .no⟩, ⟨⟨(some 7), (.op (.mv (.c (.int .i64 0)))), none⟩, .no⟩])
def c10_1 : KC := (.ops [⟨⟨(some 10), (.op (.load true 3 (.t 3))), none⟩, (.agg [(.int .i64), (.int .i64), .bool])⟩, ⟨⟨(some 11), (.op (.build [(.int .i64 0), (.int .i64 0), (.bool false)] [(0, (3, (.t 10)))])), none⟩, .no⟩, ⟨⟨(some 8), (.op (.alloc [(.int .i64 0), (.int .i64 0), (.bool false)])), none⟩, .no⟩, ⟨⟨none, (.op (.store 3 (.t 8) (.t 11))), none⟩, .no⟩])
def c10_2 : KC := (.ops [⟨⟨(some 12), (.op (.load true 3 (.t 8))), none⟩, (.agg [(.int .i64), (.int .i64), .bool])⟩, ⟨⟨(some 13), (.scall 18 [(.t 12)]), none⟩, (.leaf .bool)⟩, ⟨⟨(some 14), (.op (.un .not (.t 13))), none⟩, .no⟩, ⟨⟨(some 15), (.op (.mv (.t 14))), none⟩, .no⟩, ⟨⟨(some 16), (.op (.mv (.t 1))), (some (15, false))⟩, .no⟩, ⟨⟨(some 17), (.op (.bslice 1 1 [(.int .i64 0)] [(0, (1, (.t 16)))])), (some (15, false))⟩, .no⟩, ⟨⟨(some 18), (.scall 19 [(.c (.int .i64 0)), (.c (.int .i64 80)), (.t 17)]), (some (15, false))⟩, (.leaf .bool)⟩, ⟨⟨(some 19), (.op (.un .not (.t 18))), (some (15, false))⟩, .no⟩, ⟨⟨(some 20), (.op (.pick (.t 15) (.c (.bool true)) (.t 19))), none⟩, .no⟩, ⟨⟨(some 21), (.op (.mv (.t 20))), none⟩, .no⟩, ⟨⟨(some 22), (.op (.mv (.t 2))), (some (21, false))⟩, .no⟩, ⟨⟨(some 23), (.op (.bslice 1 1 [(.int .i64 0)] [(0, (1, (.t 22)))])), (some (21, false))⟩, .no⟩, ⟨⟨(some 24), (.scall 19 [(.c (.int .i64 0)), (.c (.int .i64 3)), (.t 23)]), (some (21, false))⟩, (.leaf .bool)⟩, ⟨⟨(some 25), (.op (.un .not (.t 24))), (some (21, false))⟩, .no⟩, ⟨⟨(some 26), (.op (.pick (.t 21) (.c (.bool true)) (.t 25))), none⟩, .no⟩])
def c10_3 : KC := (.ops [⟨⟨(some 27), (.op (.build [(.int .i64 0), (.int .i64 0), (.bool false)] [])), none⟩, .no⟩, ⟨⟨none, (.op (.store 3 (.t 6) (.t 27))), none⟩, .no⟩, ⟨⟨(some 7), (.op (.mv (.c (.int .i64 1)))), none⟩, .no⟩])
def c10_4 : KC := .ret
def c10_5 : KC := (.seq c10_3 c10_4)
def c10_6 : KC := .skip
def c10_7 : KC := (.cond (.t 26) c10_5 c10_6)
def c10_8 : KC := (.seq c10_2 c10_7)
def c10_9 : KC := (.ops [⟨⟨(some 28), (.op (.load true 3 (.t 8))), none⟩, (.agg [(.int .i64), (.int .i64), .bool])⟩, ⟨⟨(some 29), (.op (.mkf 20 [(.t 28)] [])), none⟩, .no⟩, ⟨⟨(some 9), (.op (.mv (.t 29))), none⟩, .no⟩])
def c10_10 : KC := (.ops [⟨⟨(some 30), (.op (.fadr 2 (.t 3))), none⟩, .no⟩, ⟨⟨(some 31), (.op (.load false 1 (.t 30))), none⟩, (.leaf .bool)⟩])
def c10_11 : KC := (.ops [⟨⟨(some 32), (.op (.load true 3 (.t 8))), none⟩, (.agg [(.int .i64), (.int .i64), .bool])⟩, ⟨⟨(some 33), (.op (.mkf 21 [(.t 32)] [])), none⟩, .no⟩, ⟨⟨(some 9), (.op (.mv (.t 33))), none⟩, .no⟩])
def c10_12 : KC := .skip
def c10_13 : KC := (.cond (.t 31) c10_11 c10_12)
def c10_14 : KC := (.seq c10_10 c10_13)
def c10_15 : KC := (.ops [⟨⟨(some 34), (.op (.mv (.t 9))), none⟩, .no⟩, ⟨⟨(some 35), (.op (.mv (.t 1))), none⟩, .no⟩, ⟨⟨(some 36), (.op (.bin .mul (.c (.int .i64 2300)) (.t 35))), none⟩, .no⟩, ⟨⟨(some 37), (.op (.mv (.t 2))), none⟩, .no⟩, ⟨⟨(some 38), (.op (.bin .mul (.t 36) (.t 37))), none⟩, .no⟩, ⟨⟨(some 39), (.call (.t 34) [(.t 38)]), none⟩, .no⟩, ⟨⟨none, (.op (.store 3 (.t 8) (.t 39))), none⟩, .no⟩])
def c10_16 : KC := (.ops [⟨⟨(some 40), (.op (.load true 3 (.t 8))), none⟩, (.agg [(.int .i64), (.int .i64), .bool])⟩, ⟨⟨(some 41), (.scall 18 [(.t 40)]), none⟩, (.leaf .bool)⟩, ⟨⟨(some 42), (.op (.un .not (.t 41))), none⟩, .no⟩])
def c10_17 : KC := (.ops [⟨⟨(some 43), (.op (.build [(.int .i64 0), (.int .i64 0), (.bool false)] [])), none⟩, .no⟩, ⟨⟨none, (.op (.store 3 (.t 6) (.t 43))), none⟩, .no⟩, ⟨⟨(some 7), (.op (.mv (.c (.int .i64 3)))), none⟩, .no⟩])
def c10_18 : KC := .ret
def c10_19 : KC := (.seq c10_17 c10_18)
def c10_20 : KC := .skip
def c10_21 : KC := (.cond (.t 42) c10_19 c10_20)
def c10_22 : KC := (.seq c10_16 c10_21)
def c10_23 : KC := (.seq c10_15 c10_22)
def c10_24 : KC := (.ops [⟨⟨(some 44), (.op (.fadr 0 (.t 8))), none⟩, .no⟩, ⟨⟨(some 45), (.op (.load true 3 (.t 44))), none⟩, (.agg [(.int .i64), (.int .i64), .bool])⟩, ⟨⟨none, (.op (.store 3 (.t 6) (.t 45))), none⟩, .no⟩, ⟨⟨(some 7), (.op (.mv (.c (.int .i64 0)))), none⟩, .no⟩])
def c10_25 : KC := .ret
def c10_26 : KC := (.seq c10_24 c10_25)
def c10_27 : KC := (.seq c10_23 c10_26)
def c10_28 : KC := (.seq c10_14 c10_27)
def c10_29 : KC := (.seq c10_9 c10_28)
def c10_30 : KC := (.seq c10_8 c10_29)
def c10_31 : KC := (.seq c10_1 c10_30)
def c10_32 : KC := (.seq c10_0 c10_31)
def kf10 : KF := ⟨46, [(.cell 6 true 3), (.tmp 7 none)], c10_32⟩
def kl10 : List (Nat × TI) := []
def kt10 : List (Nat × TI) := []
def c11_0 : KC := (.ops [⟨⟨(some 3), (.op (.box (.t 0))), none⟩, .no⟩, ⟨⟨(some 6), (.op (.alloc [(.int .i64 0), (.int .i64 0), (.bool false)])), none⟩, .no⟩, ⟨⟨(some 7), (.op (.mv (.c (.int .i64 0)))), none⟩, .no⟩])
def c11_1 : KC := (.ops [⟨⟨(some 8), (.op (.load true 3 (.t 3))), none⟩, (.agg [(.int .i64), (.int .i64), .bool])⟩, ⟨⟨(some 9), (.scall 22 [(.t 8)]), none⟩, (.leaf .bool)⟩, ⟨⟨(some 10), (.op (.un .not (.t 9))), none⟩, .no⟩, ⟨⟨(some 11), (.op (.mv (.t 10))), none⟩, .no⟩, ⟨⟨(some 12), (.op (.mv (.t 1))), (some (11, false))⟩, .no⟩, ⟨⟨(some 13), (.op (.bin .lss (.t 12) (.c (.int .i64 0)))), (some (11, false))⟩, .no⟩, ⟨⟨(some 14), (.op (.pick (.t 11) (.c (.bool true)) (.t 13))), none⟩, .no⟩, ⟨⟨(some 15), (.op (.mv (.t 14))), none⟩, .no⟩, ⟨⟨(some 16), (.op (.mv (.t 1))), (some (15, false))⟩, .no⟩, ⟨⟨(some 17), (.op (.bin .gtr (.t 16) (.c (.int .i64 80)))), (some (15, false))⟩, .no⟩, ⟨⟨(some 18), (.op (.pick (.t 15) (.c (.bool true)) (.t 17))), none⟩, .no⟩, ⟨⟨(some 19), (.op (.mv (.t 18))), none⟩, .no⟩, ⟨⟨(some 20), (.op (.mv (.t 2))), (some (19, false))⟩, .no⟩, ⟨⟨(some 21), (.op (.bin .lss (.t 20) (.c (.int .i64 0)))), (some (19, false))⟩, .no⟩, ⟨⟨(some 22), (.op (.pick (.t 19) (.c (.bool true)) (.t 21))), none⟩, .no⟩, ⟨⟨(some 23), (.op (.mv (.t 22))), none⟩, .no⟩, ⟨⟨(some 24), (.op (.mv (.t 2))), (some (23, false))⟩, .no⟩, ⟨⟨(some 25), (.op (.bin .gtr (.t 24) (.c (.int .i64 3)))), (some (23, false))⟩, .no⟩, ⟨⟨(some 26), (.op (.pick (.t 23) (.c (.bool true)) (.t 25))), none⟩, .no⟩])
def c11_2 : KC := (.ops [⟨⟨(some 27), (.op (.build [(.int .i64 0), (.int .i64 0), (.bool false)] [])), none⟩, .no⟩, ⟨⟨none, (.op (.store 3 (.t 6) (.t 27))), none⟩, .no⟩, ⟨⟨(some 7), (.op (.mv (.c (.int .i64 1)))), none⟩, .no⟩])
def c11_3 : KC := .ret
def c11_4 : KC := (.seq c11_2 c11_3)
def c11_5 : KC := .skip
def c11_6 : KC := (.cond (.t 26) c11_4 c11_5)
def c11_7 : KC := (.seq c11_1 c11_6)
def c11_8 : KC := (.ops [⟨⟨(some 28), (.op (.fadr 2 (.t 3))), none⟩, .no⟩, ⟨⟨(some 29), (.op (.load false 1 (.t 28))), none⟩, (.leaf .bool)⟩])
def c11_9 : KC := (.par 0 [⟨⟨(some 30), (.op (.fadr 1 (.t 3))), none⟩, .no⟩, ⟨⟨(some 31), (.op (.load false 1 (.t 30))), none⟩, (.leaf (.int .i64))⟩, ⟨⟨(some 32), (.op (.mv (.t 1))), none⟩, .no⟩, ⟨⟨(some 33), (.op (.mv (.t 2))), none⟩, .no⟩, ⟨⟨(some 34), (.scall 23 [(.t 32), (.t 33)]), none⟩, (.leaf (.int .i64))⟩, ⟨⟨(some 35), (.op (.bin .sub (.t 31) (.t 34))), none⟩, .no⟩, ⟨⟨(some 36), (.op (.fadr 1 (.t 3))), none⟩, .no⟩, ⟨⟨none, (.op (.store 1 (.t 36) (.t 35))), none⟩, .no⟩])
def c11_10 : KC := (.par 0 [⟨⟨(some 37), (.op (.fadr 1 (.t 3))), none⟩, .no⟩, ⟨⟨(some 38), (.op (.load false 1 (.t 37))), none⟩, (.leaf (.int .i64))⟩, ⟨⟨(some 39), (.op (.mv (.t 1))), none⟩, .no⟩, ⟨⟨(some 40), (.op (.mv (.t 2))), none⟩, .no⟩, ⟨⟨(some 41), (.scall 23 [(.t 39), (.t 40)]), none⟩, (.leaf (.int .i64))⟩, ⟨⟨(some 42), (.op (.bin .add (.t 38) (.t 41))), none⟩, .no⟩, ⟨⟨(some 43), (.op (.fadr 1 (.t 3))), none⟩, .no⟩, ⟨⟨none, (.op (.store 1 (.t 43) (.t 42))), none⟩, .no⟩])
def c11_11 : KC := (.cond (.t 29) c11_9 c11_10)
def c11_12 : KC := (.seq c11_8 c11_11)
def c11_13 : KC := (.ops [⟨⟨(some 44), (.op (.load true 3 (.t 3))), none⟩, (.agg [(.int .i64), (.int .i64), .bool])⟩, ⟨⟨(some 45), (.scall 22 [(.t 44)]), none⟩, (.leaf .bool)⟩, ⟨⟨(some 46), (.op (.un .not (.t 45))), none⟩, .no⟩])
def c11_14 : KC := (.ops [⟨⟨(some 47), (.op (.build [(.int .i64 0), (.int .i64 0), (.bool false)] [])), none⟩, .no⟩, ⟨⟨none, (.op (.store 3 (.t 6) (.t 47))), none⟩, .no⟩, ⟨⟨(some 7), (.op (.mv (.c (.int .i64 3)))), none⟩, .no⟩])
def c11_15 : KC := .ret
def c11_16 : KC := (.seq c11_14 c11_15)
def c11_17 : KC := .skip
def c11_18 : KC := (.cond (.t 46) c11_16 c11_17)
def c11_19 : KC := (.seq c11_13 c11_18)
def c11_20 : KC := (.ops [⟨⟨(some 48), (.op (.load true 3 (.t 3))), none⟩, (.agg [(.int .i64), (.int .i64), .bool])⟩, ⟨⟨none, (.op (.store 3 (.t 6) (.t 48))), none⟩, .no⟩, ⟨⟨(some 7), (.op (.mv (.c (.int .i64 0)))), none⟩, .no⟩])
def c11_21 : KC := .ret
def c11_22 : KC := (.seq c11_20 c11_21)
def c11_23 : KC := (.seq c11_19 c11_22)
def c11_24 : KC := (.seq c11_12 c11_23)
def c11_25 : KC := (.seq c11_7 c11_24)
def c11_26 : KC := (.seq c11_0 c11_25)
def kf11 : KF := ⟨49, [(.cell 6 true 3), (.tmp 7 none)], c11_26⟩
def kl11 : List (Nat × TI) := []
def kt11 : List (Nat × TI) := []
def c12_0 : KC := (.ops [⟨⟨(some 3), (.op (.box (.t 0))), none⟩, .no⟩, ⟨⟨(some 6), (.op (.alloc [(.int .i64 0), (.int .i64 0), (.bool false)])), none⟩, .no⟩, ⟨⟨(some 7), (.op (.mv (.c (.int .i64 0)))), none⟩, .no⟩])
def c12_1 : KC := (.ops [⟨⟨(some 9), (.op (.mv (.t 1))), none⟩, .no⟩, ⟨⟨(some 10), (.op (.mv (.t 2))), none⟩, .no⟩, ⟨⟨(some 11), (.op (.build [(.int .i64 0), (.int .i64 0), (.bool false)] [(0, (1, (.t 9))), (1, (1, (.t 10)))])), none⟩, .no⟩, ⟨⟨(some 12), (.op (.build [(.int .i64 0), (.int .i64 0), (.bool false)] [(0, (3, (.t 11)))])), none⟩, .no⟩, ⟨⟨(some 8), (.op (.alloc [(.int .i64 0), (.int .i64 0), (.bool false)])), none⟩, .no⟩, ⟨⟨none, (.op (.store 3 (.t 8) (.t 12))), none⟩, .no⟩])
def c12_2 : KC := (.ops [⟨⟨(some 14), (.op (.load true 3 (.t 3))), none⟩, (.agg [(.int .i64), (.int .i64), .bool])⟩, ⟨⟨(some 15), (.op (.build [(.int .i64 0), (.int .i64 0), (.bool false)] [(0, (3, (.t 14)))])), none⟩, .no⟩, ⟨⟨(some 16), (.scall 18 [(.t 15)]), none⟩, (.leaf .bool)⟩, ⟨⟨(some 17), (.op (.un .not (.t 16))), none⟩, .no⟩, ⟨⟨(some 18), (.op (.mv (.t 17))), none⟩, .no⟩, ⟨⟨(some 19), (.op (.load true 3 (.t 8))), (some (18, false))⟩, (.agg [(.int .i64), (.int .i64), .bool])⟩, ⟨⟨(some 20), (.scall 18 [(.t 19)]), (some (18, false))⟩, (.leaf .bool)⟩, ⟨⟨(some 21), (.op (.un .not (.t 20))), (some (18, false))⟩, .no⟩, ⟨⟨(some 22), (.op (.pick (.t 18) (.c (.bool true)) (.t 21))), none⟩, .no⟩, ⟨⟨(some 13), (.op (.mv (.t 22))), none⟩, .no⟩])
def c12_3 : KC := (.ops [⟨⟨(some 23), (.op (.build [(.int .i64 0), (.int .i64 0), (.bool false)] [])), none⟩, .no⟩, ⟨⟨none, (.op (.store 3 (.t 6) (.t 23))), none⟩, .no⟩, ⟨⟨(some 7), (.op (.mv (.c (.int .i64 1)))), none⟩, .no⟩])
def c12_4 : KC := .ret
def c12_5 : KC := (.seq c12_3 c12_4)
def c12_6 : KC := (.ops [⟨⟨(some 25), (.op (.fadr 0 (.t 3))), none⟩, .no⟩, ⟨⟨(some 26), (.op (.load false 1 (.t 25))), none⟩, (.leaf (.int .i64))⟩, ⟨⟨(some 27), (.op (.mv (.t 1))), none⟩, .no⟩, ⟨⟨(some 28), (.op (.bin .eql (.t 26) (.t 27))), none⟩, .no⟩, ⟨⟨(some 24), (.op (.mv (.t 28))), none⟩, .no⟩])
def c12_7 : KC := (.ops [⟨⟨(some 29), (.op (.build [(.int .i64 0), (.int .i64 0), (.bool false)] [])), none⟩, .no⟩, ⟨⟨none, (.op (.store 3 (.t 6) (.t 29))), none⟩, .no⟩, ⟨⟨(some 7), (.op (.mv (.c (.int .i64 5)))), none⟩, .no⟩])
def c12_8 : KC := .ret
def c12_9 : KC := (.seq c12_7 c12_8)
def c12_10 : KC := .skip
def c12_11 : KC := (.cond (.t 24) c12_9 c12_10)
def c12_12 : KC := (.seq c12_6 c12_11)
def c12_13 : KC := (.cond (.t 13) c12_5 c12_12)
def c12_14 : KC := (.seq c12_2 c12_13)
def c12_15 : KC := (.block 0 c12_14)
def c12_16 : KC := (.ops [⟨⟨(some 30), (.op (.fadr 0 (.t 8))), none⟩, .no⟩, ⟨⟨(some 31), (.op (.load true 3 (.t 30))), none⟩, (.agg [(.int .i64), (.int .i64), .bool])⟩, ⟨⟨none, (.op (.store 3 (.t 6) (.t 31))), none⟩, .no⟩, ⟨⟨(some 7), (.op (.mv (.c (.int .i64 0)))), none⟩, .no⟩])
def c12_17 : KC := .ret
def c12_18 : KC := (.seq c12_16 c12_17)
def c12_19 : KC := (.seq c12_15 c12_18)
def c12_20 : KC := (.seq c12_1 c12_19)
def c12_21 : KC := (.seq c12_0 c12_20)
def kf12 : KF := ⟨32, [(.cell 6 true 3), (.tmp 7 none)], c12_21⟩
def kl12 : List (Nat × TI) := []
def kt12 : List (Nat × TI) := []
def c13_0 : KC := (.ops [⟨⟨(some 3), (.op (.box (.t 0))), none⟩, .no⟩, ⟨⟨(some 6), (.op (.alloc [(.int .i64 0), (.int .i64 0), (.bool false)])), none⟩, .no⟩, ⟨⟨(some 7), (.op (.mv (.c (.int .i64 0)))), none⟩, .no⟩])
def c13_1 : KC := (.ops [⟨⟨(some 9), (.op (.mv (.t 1))), none⟩, .no⟩, ⟨⟨(some 10), (.op (.mv (.t 2))), none⟩, .no⟩, ⟨⟨(some 11), (.op (.build [(.int .i64 0), (.int .i64 0), (.bool false)] [(0, (1, (.t 9))), (1, (1, (.t 10)))])), none⟩, .no⟩, ⟨⟨(some 8), (.op (.alloc [(.int .i64 0), (.int .i64 0), (.bool false)])), none⟩, .no⟩, ⟨⟨none, (.op (.store 3 (.t 8) (.t 11))), none⟩, .no⟩])
def c13_2 : KC := (.ops [⟨⟨(some 12), (.op (.load true 3 (.t 3))), none⟩, (.agg [(.int .i64), (.int .i64), .bool])⟩, ⟨⟨(some 13), (.scall 22 [(.t 12)]), none⟩, (.leaf .bool)⟩, ⟨⟨(some 14), (.op (.un .not (.t 13))), none⟩, .no⟩, ⟨⟨(some 15), (.op (.mv (.t 14))), none⟩, .no⟩, ⟨⟨(some 16), (.op (.load true 3 (.t 8))), (some (15, false))⟩, (.agg [(.int .i64), (.int .i64), .bool])⟩, ⟨⟨(some 17), (.scall 22 [(.t 16)]), (some (15, false))⟩, (.leaf .bool)⟩, ⟨⟨(some 18), (.op (.un .not (.t 17))), (some (15, false))⟩, .no⟩, ⟨⟨(some 19), (.op (.pick (.t 15) (.c (.bool true)) (.t 18))), none⟩, .no⟩])
def c13_3 : KC := (.ops [⟨⟨(some 20), (.op (.build [(.int .i64 0), (.int .i64 0), (.bool false)] [])), none⟩, .no⟩, ⟨⟨none, (.op (.store 3 (.t 6) (.t 20))), none⟩, .no⟩, ⟨⟨(some 7), (.op (.mv (.c (.int .i64 1)))), none⟩, .no⟩])
def c13_4 : KC := .ret
def c13_5 : KC := (.seq c13_3 c13_4)
def c13_6 : KC := .skip
def c13_7 : KC := (.cond (.t 19) c13_5 c13_6)
def c13_8 : KC := (.seq c13_2 c13_7)
def c13_9 : KC := (.ops [⟨⟨(some 21), (.op (.mv (.t 1))), none⟩, .no⟩, ⟨⟨(some 22), (.op (.fadr 0 (.t 3))), none⟩, .no⟩, ⟨⟨(some 23), (.op (.load false 1 (.t 22))), none⟩, (.leaf (.int .i64))⟩, ⟨⟨(some 24), (.op (.bin .eql (.t 21) (.t 23))), none⟩, .no⟩])
def c13_10 : KC := (.ops [⟨⟨(some 25), (.op (.build [(.int .i64 0), (.int .i64 0), (.bool false)] [])), none⟩, .no⟩, ⟨⟨none, (.op (.store 3 (.t 6) (.t 25))), none⟩, .no⟩, ⟨⟨(some 7), (.op (.mv (.c (.int .i64 5)))), none⟩, .no⟩])
def c13_11 : KC := .ret
def c13_12 : KC := (.seq c13_10 c13_11)
def c13_13 : KC := .skip
def c13_14 : KC := (.cond (.t 24) c13_12 c13_13)
def c13_15 : KC := (.seq c13_9 c13_14)
def c13_16 : KC := (.ops [⟨⟨(some 26), (.op (.load true 3 (.t 8))), none⟩, (.agg [(.int .i64), (.int .i64), .bool])⟩, ⟨⟨none, (.op (.store 3 (.t 6) (.t 26))), none⟩, .no⟩, ⟨⟨(some 7), (.op (.mv (.c (.int .i64 0)))), none⟩, .no⟩])
def c13_17 : KC := .ret
def c13_18 : KC := (.seq c13_16 c13_17)
def c13_19 : KC := (.seq c13_15 c13_18)
def c13_20 : KC := (.seq c13_8 c13_19)
def c13_21 : KC := (.seq c13_1 c13_20)
def c13_22 : KC := (.seq c13_0 c13_21)
def kf13 : KF := ⟨27, [(.cell 6 true 3), (.tmp 7 none)], c13_22⟩
def kl13 : List (Nat × TI) := []
def kt13 : List (Nat × TI) := []
def c14_0 : KC := (.ops [⟨⟨(some 2), (.op (.box (.t 0))), none⟩, .no⟩, ⟨⟨(some 3), (.op (.box (.t 1))), none⟩, .no⟩, ⟨⟨(some 4), (.op (.mv (.c (.int .i64 0)))), none⟩, .no⟩, ⟨⟨(some 5), (.op (.mv (.c (.int .i64 0)))), none⟩, .no⟩])
def c14_1 : KC := (.ops [⟨⟨(some 7), (.op (.load true 3 (.t 2))), none⟩, (.agg [(.int .i64), (.int .i64), .bool])⟩, ⟨⟨(some 8), (.op (.build [(.int .i64 0), (.int .i64 0), (.bool false)] [(0, (3, (.t 7)))])), none⟩, .no⟩, ⟨⟨(some 9), (.scall 18 [(.t 8)]), none⟩, (.leaf .bool)⟩, ⟨⟨(some 10), (.op (.un .not (.t 9))), none⟩, .no⟩, ⟨⟨(some 11), (.op (.mv (.t 10))), none⟩, .no⟩, ⟨⟨(some 12), (.op (.load true 3 (.t 3))), (some (11, false))⟩, (.agg [(.int .i64), (.int .i64), .bool])⟩, ⟨⟨(some 13), (.op (.build [(.int .i64 0), (.int .i64 0), (.bool false)] [(0, (3, (.t 12)))])), (some (11, false))⟩, .no⟩, ⟨⟨(some 14), (.scall 18 [(.t 13)]), (some (11, false))⟩, (.leaf .bool)⟩, ⟨⟨(some 15), (.op (.un .not (.t 14))), (some (11, false))⟩, .no⟩, ⟨⟨(some 16), (.op (.pick (.t 11) (.c (.bool true)) (.t 15))), none⟩, .no⟩, ⟨⟨(some 6), (.op (.mv (.t 16))), none⟩, .no⟩])
def c14_2 : KC := (.ops [⟨⟨(some 4), (.op (.mv (.c (.int .i64 0)))), none⟩, .no⟩, ⟨⟨(some 5), (.op (.mv (.c (.int .i64 1)))), none⟩, .no⟩])
def c14_3 : KC := .ret
def c14_4 : KC := (.seq c14_2 c14_3)
def c14_5 : KC := (.ops [⟨⟨(some 18), (.op (.fadr 0 (.t 2))), none⟩, .no⟩, ⟨⟨(some 19), (.op (.load false 1 (.t 18))), none⟩, (.leaf (.int .i64))⟩, ⟨⟨(some 20), (.op (.fadr 0 (.t 3))), none⟩, .no⟩, ⟨⟨(some 21), (.op (.load false 1 (.t 20))), none⟩, (.leaf (.int .i64))⟩, ⟨⟨(some 22), (.op (.bin .neq (.t 19) (.t 21))), none⟩, .no⟩, ⟨⟨(some 17), (.op (.mv (.t 22))), none⟩, .no⟩])
def c14_6 : KC := (.ops [⟨⟨(some 4), (.op (.mv (.c (.int .i64 0)))), none⟩, .no⟩, ⟨⟨(some 5), (.op (.mv (.c (.int .i64 4)))), none⟩, .no⟩])
def c14_7 : KC := .ret
def c14_8 : KC := (.seq c14_6 c14_7)
def c14_9 : KC := (.ops [⟨⟨(some 24), (.op (.fadr 1 (.t 3))), none⟩, .no⟩, ⟨⟨(some 25), (.op (.load false 1 (.t 24))), none⟩, (.leaf (.int .i64))⟩, ⟨⟨(some 26), (.op (.fadr 1 (.t 2))), none⟩, .no⟩, ⟨⟨(some 27), (.op (.load false 1 (.t 26))), none⟩, (.leaf (.int .i64))⟩, ⟨⟨(some 28), (.op (.bin .lss (.t 25) (.t 27))), none⟩, .no⟩, ⟨⟨(some 23), (.op (.mv (.t 28))), none⟩, .no⟩])
def c14_10 : KC := (.ops [⟨⟨(some 4), (.op (.mv (.c (.int .i64 0)))), none⟩, .no⟩, ⟨⟨(some 5), (.op (.mv (.c (.int .i64 11)))), none⟩, .no⟩])
def c14_11 : KC := .ret
def c14_12 : KC := (.seq c14_10 c14_11)
def c14_13 : KC := .skip
def c14_14 : KC := (.cond (.t 23) c14_12 c14_13)
def c14_15 : KC := (.seq c14_9 c14_14)
def c14_16 : KC := (.cond (.t 17) c14_8 c14_15)
def c14_17 : KC := (.seq c14_5 c14_16)
def c14_18 : KC := (.cond (.t 6) c14_4 c14_17)
def c14_19 : KC := (.seq c14_1 c14_18)
def c14_20 : KC := (.block 0 c14_19)
def c14_21 : KC := (.ops [⟨⟨(some 29), (.op (.fadr 1 (.t 3))), none⟩, .no⟩, ⟨⟨(some 30), (.op (.load false 1 (.t 29))), none⟩, (.leaf (.int .i64))⟩, ⟨⟨(some 31), (.op (.fadr 1 (.t 2))), none⟩, .no⟩, ⟨⟨(some 32), (.op (.load false 1 (.t 31))), none⟩, (.leaf (.int .i64))⟩, ⟨⟨(some 33), (.op (.bin .sub (.t 30) (.t 32))), none⟩, .no⟩, ⟨⟨(some 34), (.op (.bin .quo (.t 33) (.c (.int .i64 3600)))), none⟩, .no⟩, ⟨⟨(some 4), (.op (.mv (.t 34))), none⟩, .no⟩, ⟨⟨(some 5), (.op (.mv (.c (.int .i64 0)))), none⟩, .no⟩])
def c14_22 : KC := .ret
def c14_23 : KC := (.seq c14_21 c14_22)
def c14_24 : KC := (.seq c14_20 c14_23)
def c14_25 : KC := (.seq c14_0 c14_24)
def kf14 : KF := ⟨35, [(.tmp 4 none), (.tmp 5 none)], c14_25⟩
def kl14 : List (Nat × TI) := []
def kt14 : List (Nat × TI) := []
def c15_0 : KC := (.ops [⟨⟨(some 2), (.op (.box (.t 0))), none⟩, .no⟩, ⟨⟨(some 3), (.op (.box (.t 1))), none⟩, .no⟩, ⟨⟨(some 4), (.op (.mv (.c (.int .i64 0)))), none⟩, .no⟩, ⟨⟨(some 5), (.op (.mv (.c (.int .i64 0)))), none⟩, .no⟩])
def c15_1 : KC := (.ops [⟨⟨(some 6), (.op (.load true 3 (.t 2))), none⟩, (.agg [(.int .i64), (.int .i64), .bool])⟩, ⟨⟨(some 7), (.scall 22 [(.t 6)]), none⟩, (.leaf .bool)⟩, ⟨⟨(some 8), (.op (.un .not (.t 7))), none⟩, .no⟩, ⟨⟨(some 9), (.op (.mv (.t 8))), none⟩, .no⟩, ⟨⟨(some 10), (.op (.load true 3 (.t 3))), (some (9, false))⟩, (.agg [(.int .i64), (.int .i64), .bool])⟩, ⟨⟨(some 11), (.scall 22 [(.t 10)]), (some (9, false))⟩, (.leaf .bool)⟩, ⟨⟨(some 12), (.op (.un .not (.t 11))), (some (9, false))⟩, .no⟩, ⟨⟨(some 13), (.op (.pick (.t 9) (.c (.bool true)) (.t 12))), none⟩, .no⟩])
def c15_2 : KC := (.ops [⟨⟨(some 4), (.op (.mv (.c (.int .i64 0)))), none⟩, .no⟩, ⟨⟨(some 5), (.op (.mv (.c (.int .i64 1)))), none⟩, .no⟩])
def c15_3 : KC := .ret
def c15_4 : KC := (.seq c15_2 c15_3)
def c15_5 : KC := .skip
def c15_6 : KC := (.cond (.t 13) c15_4 c15_5)
def c15_7 : KC := (.seq c15_1 c15_6)
def c15_8 : KC := (.ops [⟨⟨(some 14), (.op (.fadr 0 (.t 2))), none⟩, .no⟩, ⟨⟨(some 15), (.op (.load false 1 (.t 14))), none⟩, (.leaf (.int .i64))⟩, ⟨⟨(some 16), (.op (.fadr 0 (.t 3))), none⟩, .no⟩, ⟨⟨(some 17), (.op (.load false 1 (.t 16))), none⟩, (.leaf (.int .i64))⟩, ⟨⟨(some 18), (.op (.bin .neq (.t 15) (.t 17))), none⟩, .no⟩])
def c15_9 : KC := (.ops [⟨⟨(some 4), (.op (.mv (.c (.int .i64 0)))), none⟩, .no⟩, ⟨⟨(some 5), (.op (.mv (.c (.int .i64 4)))), none⟩, .no⟩])
def c15_10 : KC := .ret
def c15_11 : KC := (.seq c15_9 c15_10)
def c15_12 : KC := .skip
def c15_13 : KC := (.cond (.t 18) c15_11 c15_12)
def c15_14 : KC := (.seq c15_8 c15_13)
def c15_15 : KC := (.ops [⟨⟨(some 19), (.op (.fadr 1 (.t 3))), none⟩, .no⟩, ⟨⟨(some 20), (.op (.load false 1 (.t 19))), none⟩, (.leaf (.int .i64))⟩, ⟨⟨(some 21), (.op (.fadr 1 (.t 2))), none⟩, .no⟩, ⟨⟨(some 22), (.op (.load false 1 (.t 21))), none⟩, (.leaf (.int .i64))⟩, ⟨⟨(some 23), (.op (.bin .lss (.t 20) (.t 22))), none⟩, .no⟩])
def c15_16 : KC := (.ops [⟨⟨(some 4), (.op (.mv (.c (.int .i64 0)))), none⟩, .no⟩, ⟨⟨(some 5), (.op (.mv (.c (.int .i64 11)))), none⟩, .no⟩])
def c15_17 : KC := .ret
def c15_18 : KC := (.seq c15_16 c15_17)
def c15_19 : KC := .skip
def c15_20 : KC := (.cond (.t 23) c15_18 c15_19)
def c15_21 : KC := (.seq c15_15 c15_20)
def c15_22 : KC := (.ops [⟨⟨(some 24), (.op (.fadr 1 (.t 3))), none⟩, .no⟩, ⟨⟨(some 25), (.op (.load false 1 (.t 24))), none⟩, (.leaf (.int .i64))⟩, ⟨⟨(some 26), (.op (.fadr 1 (.t 2))), none⟩, .no⟩, ⟨⟨(some 27), (.op (.load false 1 (.t 26))), none⟩, (.leaf (.int .i64))⟩, ⟨⟨(some 28), (.op (.bin .sub (.t 25) (.t 27))), none⟩, .no⟩, ⟨⟨(some 29), (.op (.bin .quo (.t 28) (.c (.int .i64 3600)))), none⟩, .no⟩, ⟨⟨(some 4), (.op (.mv (.t 29))), none⟩, .no⟩, ⟨⟨(some 5), (.op (.mv (.c (.int .i64 0)))), none⟩, .no⟩])
def c15_23 : KC := .ret
def c15_24 : KC := (.seq c15_22 c15_23)
def c15_25 : KC := (.seq c15_21 c15_24)
def c15_26 : KC := (.seq c15_14 c15_25)
def c15_27 : KC := (.seq c15_7 c15_26)
def c15_28 : KC := (.seq c15_0 c15_27)
def kf15 : KF := ⟨30, [(.tmp 4 none), (.tmp 5 none)], c15_28⟩
def kl15 : List (Nat × TI) := []
def kt15 : List (Nat × TI) := []
def c16_0 : KC := (.ops [⟨⟨(some 2), (.op (.box (.t 0))), none⟩, .no⟩, ⟨⟨(some 4), (.op (.mv (.c (.bool false)))), none⟩, .no⟩])
def c16_1 : KC := (.ops [⟨⟨(some 5), (.op (.load true 3 (.t 2))), none⟩, (.agg [(.int .i64), (.int .i64), .bool])⟩, ⟨⟨(some 6), (.scall 22 [(.t 5)]), none⟩, (.leaf .bool)⟩, ⟨⟨(some 7), (.op (.mv (.t 6))), none⟩, .no⟩, ⟨⟨(some 8), (.op (.fadr 1 (.t 2))), (some (7, true))⟩, .no⟩, ⟨⟨(some 9), (.op (.load false 1 (.t 8))), (some (7, true))⟩, (.leaf (.int .i64))⟩, ⟨⟨(some 10), (.op (.bin .gtr (.t 9) (.c (.int .i64 (-500000000000000))))), (some (7, true))⟩, .no⟩, ⟨⟨(some 11), (.op (.pick (.t 7) (.t 10) (.c (.bool false)))), none⟩, .no⟩, ⟨⟨(some 12), (.op (.mv (.t 11))), none⟩, .no⟩, ⟨⟨(some 13), (.op (.fadr 1 (.t 2))), (some (12, true))⟩, .no⟩, ⟨⟨(some 14), (.op (.load false 1 (.t 13))), (some (12, true))⟩, (.leaf (.int .i64))⟩, ⟨⟨(some 15), (.op (.bin .lss (.t 14) (.c (.int .i64 500000000000000)))), (some (12, true))⟩, .no⟩, ⟨⟨(some 16), (.op (.pick (.t 12) (.t 15) (.c (.bool false)))), none⟩, .no⟩, ⟨⟨(some 17), (.op (.mv (.t 16))), none⟩, .no⟩, ⟨⟨(some 18), (.op (.mv (.t 1))), (some (17, true))⟩, .no⟩, ⟨⟨(some 19), (.op (.len (.t 18))), (some (17, true))⟩, .no⟩, ⟨⟨(some 20), (.op (.bin .leq (.t 19) (.c (.int .i64 500)))), (some (17, true))⟩, .no⟩, ⟨⟨(some 21), (.op (.pick (.t 17) (.t 20) (.c (.bool false)))), none⟩, .no⟩, ⟨⟨(some 4), (.op (.mv (.t 21))), none⟩, .no⟩])
def c16_2 : KC := .ret
def c16_3 : KC := (.seq c16_1 c16_2)
def c16_4 : KC := (.seq c16_0 c16_3)
def kf16 : KF := ⟨22, [(.tmp 4 none)], c16_4⟩
def kl16 : List (Nat × TI) := []
def kt16 : List (Nat × TI) := []
def c17_0 : KC := (.ops [⟨⟨(some 2), (.op (.box (.t 0))), none⟩, .no⟩, ⟨⟨(some 4), (.op (.alloc [(.int .i64 0), (.int .i64 0), (.bool false)])), none⟩, .no⟩, ⟨⟨(some 5), (.op (.mv (.c (.int .i64 0)))), none⟩, .no⟩, ⟨⟨(some 6), (.op (.mv (.c (.bool false)))), none⟩, .no⟩])
def c17_1 : KC := (.ops [⟨⟨(some 7), (.op (.mv (.c (.int .i64 0)))), none⟩, .no⟩])
def c17_2 : KC := (.ops [⟨⟨(some 14), (.op (.mv (.t 1))), none⟩, .no⟩, ⟨⟨(some 15), (.op (.len (.t 14))), none⟩, .no⟩, ⟨⟨(some 16), (.op (.mv (.c (.int .i64 0)))), none⟩, .no⟩])
def c17_3 : KC := (.ops [⟨⟨(some 17), (.op (.bin .lss (.t 16) (.t 15))), none⟩, .no⟩])
def c17_4 : KC := .skip
def c17_5 : KC := (.exit 0)
def c17_6 : KC := (.cond (.t 17) c17_4 c17_5)
def c17_7 : KC := (.ops [⟨⟨(some 18), (.op (.iadrS 2 (.t 14) (.t 16))), none⟩, .no⟩, ⟨⟨(some 19), (.op (.load true 2 (.t 18))), none⟩, (.agg [(.int .u8), (.int .u8)])⟩, ⟨⟨(some 9), (.op (.alloc [(.int .u8 0), (.int .u8 0)])), none⟩, .no⟩, ⟨⟨none, (.op (.store 2 (.t 9) (.t 19))), none⟩, .no⟩])
def c17_8 : KC := (.par 0 [⟨⟨(some 20), (.op (.iadrA 2 1 (.t 9) (.c (.int .i64 0)))), none⟩, .no⟩, ⟨⟨(some 21), (.op (.load false 1 (.t 20))), none⟩, (.leaf (.int .u8))⟩, ⟨⟨(some 22), (.op (.cvi .i64 (.t 21))), none⟩, .no⟩, ⟨⟨(some 23), (.op (.bin .rem (.t 22) (.c (.int .i64 81)))), none⟩, .no⟩, ⟨⟨(some 24), (.op (.iadrA 2 1 (.t 9) (.c (.int .i64 1)))), none⟩, .no⟩, ⟨⟨(some 25), (.op (.load false 1 (.t 24))), none⟩, (.leaf (.int .u8))⟩, ⟨⟨(some 26), (.op (.cvi .i64 (.t 25))), none⟩, .no⟩, ⟨⟨(some 27), (.op (.bin .rem (.t 26) (.c (.int .i64 4)))), none⟩, .no⟩, ⟨⟨(some 10), (.op (.mv (.t 23))), none⟩, .no⟩, ⟨⟨(some 11), (.op (.mv (.t 27))), none⟩, .no⟩])
def c17_9 : KC := (.ops [⟨⟨(some 29), (.op (.load true 3 (.t 2))), none⟩, (.agg [(.int .i64), (.int .i64), .bool])⟩, ⟨⟨(some 30), (.op (.mv (.t 10))), none⟩, .no⟩, ⟨⟨(some 31), (.op (.mv (.t 11))), none⟩, .no⟩, ⟨⟨(some 32), (.scall 10 [(.t 29), (.t 30), (.t 31)]), none⟩, (.tup [(.agg [(.int .i64), (.int .i64), .bool]), (.leaf (.int .i64))])⟩, ⟨⟨(some 28), (.op (.mv (.t 32))), none⟩, .no⟩, ⟨⟨(some 33), (.op (.ext 0 (.t 28))), none⟩, .no⟩, ⟨⟨(some 34), (.op (.ext 1 (.t 28))), none⟩, .no⟩, ⟨⟨(some 12), (.op (.alloc [(.int .i64 0), (.int .i64 0), (.bool false)])), none⟩, .no⟩, ⟨⟨none, (.op (.store 3 (.t 12) (.t 33))), none⟩, .no⟩, ⟨⟨(some 13), (.op (.mv (.t 34))), none⟩, .no⟩])
def c17_10 : KC := (.ops [⟨⟨(some 35), (.op (.mv (.t 13))), none⟩, .no⟩, ⟨⟨(some 36), (.op (.bin .neq (.t 35) (.c (.int .i64 0)))), none⟩, .no⟩])
def c17_11 : KC := (.ops [⟨⟨(some 37), (.op (.load true 3 (.t 2))), none⟩, (.agg [(.int .i64), (.int .i64), .bool])⟩, ⟨⟨(some 38), (.op (.mv (.t 7))), none⟩, .no⟩, ⟨⟨none, (.op (.store 3 (.t 4) (.t 37))), none⟩, .no⟩, ⟨⟨(some 5), (.op (.mv (.t 38))), none⟩, .no⟩, ⟨⟨(some 6), (.op (.mv (.c (.bool false)))), none⟩, .no⟩])
def c17_12 : KC := .ret
def c17_13 : KC := (.seq c17_11 c17_12)
def c17_14 : KC := .skip
def c17_15 : KC := (.cond (.t 36) c17_13 c17_14)
def c17_16 : KC := (.seq c17_10 c17_15)
def c17_17 : KC := (.ops [⟨⟨(some 39), (.op (.load true 3 (.t 12))), none⟩, (.agg [(.int .i64), (.int .i64), .bool])⟩, ⟨⟨(some 40), (.op (.mv (.t 7))), none⟩, .no⟩, ⟨⟨(some 41), (.op (.mv (.t 10))), none⟩, .no⟩, ⟨⟨(some 42), (.op (.mv (.t 11))), none⟩, .no⟩, ⟨⟨(some 43), (.op (.bin .mul (.t 41) (.t 42))), none⟩, .no⟩, ⟨⟨(some 44), (.op (.bin .add (.t 40) (.t 43))), none⟩, .no⟩, ⟨⟨none, (.op (.store 3 (.t 2) (.t 39))), none⟩, .no⟩, ⟨⟨(some 7), (.op (.mv (.t 44))), none⟩, .no⟩])
def c17_18 : KC := (.seq c17_16 c17_17)
def c17_19 : KC := (.seq c17_9 c17_18)
def c17_20 : KC := (.seq c17_8 c17_19)
def c17_21 : KC := (.seq c17_7 c17_20)
def c17_22 : KC := (.block 1 c17_21)
def c17_23 : KC := (.ops [⟨⟨(some 45), (.op (.bin .add (.t 16) (.c (.int .i64 1)))), none⟩, .no⟩, ⟨⟨(some 16), (.op (.mv (.t 45))), none⟩, .no⟩])
def c17_24 : KC := (.seq c17_22 c17_23)
def c17_25 : KC := (.seq c17_6 c17_24)
def c17_26 : KC := (.seq c17_3 c17_25)
def ti17_27 : TI := ⟨[2, 4, 7, 14, 15, 16], [4, 5, 6], [], []⟩
def c17_27 : KC := (.loop ti17_27 [] c17_26)
def c17_28 : KC := (.block 0 c17_27)
def c17_29 : KC := (.seq c17_2 c17_28)
def c17_30 : KC := (.ops [⟨⟨(some 46), (.op (.load true 3 (.t 2))), none⟩, (.agg [(.int .i64), (.int .i64), .bool])⟩, ⟨⟨(some 47), (.op (.mv (.t 7))), none⟩, .no⟩, ⟨⟨none, (.op (.store 3 (.t 4) (.t 46))), none⟩, .no⟩, ⟨⟨(some 5), (.op (.mv (.t 47))), none⟩, .no⟩, ⟨⟨(some 6), (.op (.mv (.c (.bool true)))), none⟩, .no⟩])
def c17_31 : KC := .ret
def c17_32 : KC := (.seq c17_30 c17_31)
def c17_33 : KC := (.seq c17_29 c17_32)
def c17_34 : KC := (.seq c17_1 c17_33)
def c17_35 : KC := (.seq c17_0 c17_34)
def kf17 : KF := ⟨48, [(.cell 4 true 3), (.tmp 5 none), (.tmp 6 none)], c17_35⟩
def kl17 : List (Nat × TI) := [(3, ti17_27)]
def kt17 : List (Nat × TI) := []
def c18_0 : KC := (.ops [⟨⟨(some 1), (.op (.box (.t 0))), none⟩, .no⟩, ⟨⟨(some 2), (.op (.mv (.c (.bool false)))), none⟩, .no⟩])
def c18_1 : KC := (.ops [⟨⟨(some 3), (.op (.fadr 0 (.t 1))), none⟩, .no⟩, ⟨⟨(some 4), (.op (.fadr 0 (.t 3))), none⟩, .no⟩, ⟨⟨(some 5), (.op (.load false 1 (.t 4))), none⟩, (.leaf (.int .i64))⟩, ⟨⟨(some 6), (.op (.bslice 1 1 [(.int .i64 0)] [(0, (1, (.t 5)))])), none⟩, .no⟩, ⟨⟨(some 7), (.scall 19 [(.c (.int .i64 0)), (.c (.int .i64 1000000)), (.t 6)]), none⟩, (.leaf .bool)⟩, ⟨⟨(some 8), (.op (.mv (.t 7))), none⟩, .no⟩, ⟨⟨(some 9), (.op (.fadr 0 (.t 1))), (some (8, true))⟩, .no⟩, ⟨⟨(some 10), (.op (.fadr 1 (.t 9))), (some (8, true))⟩, .no⟩, ⟨⟨(some 11), (.op (.load false 1 (.t 10))), (some (8, true))⟩, (.leaf (.int .i64))⟩, ⟨⟨(some 12), (.op (.bslice 1 1 [(.int .i64 0)] [(0, (1, (.t 11)))])), (some (8, true))⟩, .no⟩, ⟨⟨(some 13), (.scall 19 [(.c (.int .i64 (-1000000000000000))), (.c (.int .i64 1000000000000000)), (.t 12)]), (some (8, true))⟩, (.leaf .bool)⟩, ⟨⟨(some 14), (.op (.pick (.t 8) (.t 13) (.c (.bool false)))), none⟩, .no⟩, ⟨⟨(some 2), (.op (.mv (.t 14))), none⟩, .no⟩])
def c18_2 : KC := .ret
def c18_3 : KC := (.seq c18_1 c18_2)
def c18_4 : KC := (.seq c18_0 c18_3)
def kf18 : KF := ⟨15, [(.tmp 2 none)], c18_4⟩
def kl18 : List (Nat × TI) := []
def kt18 : List (Nat × TI) := []
def c19_0 : KC := (.ops [⟨⟨(some 6), (.op (.mv (.c (.bool false)))), none⟩, .no⟩])
def c19_1 : KC := (.ops [⟨⟨(some 9), (.op (.mv (.t 2))), none⟩, .no⟩, ⟨⟨(some 10), (.op (.len (.t 9))), none⟩, .no⟩, ⟨⟨(some 11), (.op (.mv (.c (.int .i64 0)))), none⟩, .no⟩])
def c19_2 : KC := (.ops [⟨⟨(some 12), (.op (.bin .lss (.t 11) (.t 10))), none⟩, .no⟩])
def c19_3 : KC := .skip
def c19_4 : KC := (.exit 0)
def c19_5 : KC := (.cond (.t 12) c19_3 c19_4)
def c19_6 : KC := (.ops [⟨⟨(some 13), (.op (.iadrS 1 (.t 9) (.t 11))), none⟩, .no⟩, ⟨⟨(some 14), (.op (.load false 1 (.t 13))), none⟩, (.leaf (.int .i64))⟩, ⟨⟨(some 8), (.op (.mv (.t 14))), none⟩, .no⟩])
def c19_7 : KC := (.ops [⟨⟨(some 15), (.op (.mv (.t 8))), none⟩, .no⟩, ⟨⟨(some 16), (.op (.mv (.t 0))), none⟩, .no⟩, ⟨⟨(some 17), (.op (.bin .lss (.t 15) (.t 16))), none⟩, .no⟩, ⟨⟨(some 18), (.op (.mv (.t 17))), none⟩, .no⟩, ⟨⟨(some 19), (.op (.mv (.t 8))), (some (18, false))⟩, .no⟩, ⟨⟨(some 20), (.op (.mv (.t 1))), (some (18, false))⟩, .no⟩, ⟨⟨(some 21), (.op (.bin .gtr (.t 19) (.t 20))), (some (18, false))⟩, .no⟩, ⟨⟨(some 22), (.op (.pick (.t 18) (.c (.bool true)) (.t 21))), none⟩, .no⟩])
def c19_8 : KC := (.ops [⟨⟨(some 6), (.op (.mv (.c (.bool false)))), none⟩, .no⟩])
def c19_9 : KC := .ret
def c19_10 : KC := (.seq c19_8 c19_9)
def c19_11 : KC := .skip
def c19_12 : KC := (.cond (.t 22) c19_10 c19_11)
def c19_13 : KC := (.seq c19_7 c19_12)
def c19_14 : KC := (.seq c19_6 c19_13)
def c19_15 : KC := (.block 1 c19_14)
def c19_16 : KC := (.ops [⟨⟨(some 23), (.op (.bin .add (.t 11) (.c (.int .i64 1)))), none⟩, .no⟩, ⟨⟨(some 11), (.op (.mv (.t 23))), none⟩, .no⟩])
def c19_17 : KC := (.seq c19_15 c19_16)
def c19_18 : KC := (.seq c19_5 c19_17)
def c19_19 : KC := (.seq c19_2 c19_18)
def ti19_20 : TI := ⟨[0, 1, 9, 10, 11], [6], [], []⟩
def c19_20 : KC := (.loop ti19_20 [] c19_19)
def c19_21 : KC := (.block 0 c19_20)
def c19_22 : KC := (.seq c19_1 c19_21)
def c19_23 : KC := (.ops [⟨⟨(some 6), (.op (.mv (.c (.bool true)))), none⟩, .no⟩])
def c19_24 : KC := .ret
def c19_25 : KC := (.seq c19_23 c19_24)
def c19_26 : KC := (.seq c19_22 c19_25)
def c19_27 : KC := (.seq c19_0 c19_26)
def kf19 : KF := ⟨24, [(.tmp 6 none)], c19_27⟩
def kl19 : List (Nat × TI) := [(2, ti19_20)]
def kt19 : List (Nat × TI) := []
def c20_0 : KC := (.ops [⟨⟨(some 2), (.op (.box (.t 0))), none⟩, .no⟩, ⟨⟨(some 4), (.op (.alloc [(.int .i64 0), (.int .i64 0), (.bool false)])), none⟩, .no⟩])
def c20_1 : KC := (.ops [⟨⟨(some 5), (.op (.fadr 0 (.t 2))), none⟩, .no⟩, ⟨⟨(some 6), (.op (.fadr 1 (.t 5))), none⟩, .no⟩, ⟨⟨(some 7), (.op (.load false 1 (.t 6))), none⟩, (.leaf (.int .i64))⟩, ⟨⟨(some 8), (.op (.mv (.t 1))), none⟩, .no⟩, ⟨⟨(some 9), (.op (.bin .add (.t 7) (.t 8))), none⟩, .no⟩, ⟨⟨(some 10), (.op (.fadr 0 (.t 2))), none⟩, .no⟩, ⟨⟨(some 11), (.op (.fadr 1 (.t 10))), none⟩, .no⟩, ⟨⟨none, (.op (.store 1 (.t 11) (.t 9))), none⟩, .no⟩])
def c20_2 : KC := (.ops [⟨⟨(some 12), (.op (.load true 3 (.t 2))), none⟩, (.agg [(.int .i64), (.int .i64), .bool])⟩, ⟨⟨none, (.op (.store 3 (.t 4) (.t 12))), none⟩, .no⟩])
def c20_3 : KC := .ret
def c20_4 : KC := (.seq c20_2 c20_3)
def c20_5 : KC := (.seq c20_1 c20_4)
def c20_6 : KC := (.seq c20_0 c20_5)
def kf20 : KF := ⟨13, [(.cell 4 true 3)], c20_6⟩
def kl20 : List (Nat × TI) := []
def kt20 : List (Nat × TI) := []
def c21_0 : KC := (.ops [⟨⟨(some 2), (.op (.box (.t 0))), none⟩, .no⟩, ⟨⟨(some 4), (.op (.alloc [(.int .i64 0), (.int .i64 0), (.bool false)])), none⟩, .no⟩])
def c21_1 : KC := (.ops [⟨⟨(some 5), (.op (.fadr 0 (.t 2))), none⟩, .no⟩, ⟨⟨(some 6), (.op (.fadr 1 (.t 5))), none⟩, .no⟩, ⟨⟨(some 7), (.op (.load false 1 (.t 6))), none⟩, (.leaf (.int .i64))⟩, ⟨⟨(some 8), (.op (.mv (.t 1))), none⟩, .no⟩, ⟨⟨(some 9), (.op (.bin .sub (.t 7) (.t 8))), none⟩, .no⟩, ⟨⟨(some 10), (.op (.fadr 0 (.t 2))), none⟩, .no⟩, ⟨⟨(some 11), (.op (.fadr 1 (.t 10))), none⟩, .no⟩, ⟨⟨none, (.op (.store 1 (.t 11) (.t 9))), none⟩, .no⟩])
def c21_2 : KC := (.ops [⟨⟨(some 12), (.op (.load true 3 (.t 2))), none⟩, (.agg [(.int .i64), (.int .i64), .bool])⟩, ⟨⟨none, (.op (.store 3 (.t 4) (.t 12))), none⟩, .no⟩])
def c21_3 : KC := .ret
def c21_4 : KC := (.seq c21_2 c21_3)
def c21_5 : KC := (.seq c21_1 c21_4)
def c21_6 : KC := (.seq c21_0 c21_5)
def kf21 : KF := ⟨13, [(.cell 4 true 3)], c21_6⟩
def kl21 : List (Nat × TI) := []
def kt21 : List (Nat × TI) := []
def c22_0 : KC := (.ops [⟨⟨(some 1), (.op (.box (.t 0))), none⟩, .no⟩, ⟨⟨(some 2), (.op (.mv (.c (.bool false)))), none⟩, .no⟩])
def c22_1 : KC := (.ops [⟨⟨(some 3), (.op (.fadr 0 (.t 1))), none⟩, .no⟩, ⟨⟨(some 4), (.op (.load false 1 (.t 3))), none⟩, (.leaf (.int .i64))⟩, ⟨⟨(some 5), (.op (.bin .geq (.t 4) (.c (.int .i64 0)))), none⟩, .no⟩, ⟨⟨(some 6), (.op (.mv (.t 5))), none⟩, .no⟩, ⟨⟨(some 7), (.op (.fadr 0 (.t 1))), (some (6, true))⟩, .no⟩, ⟨⟨(some 8), (.op (.load false 1 (.t 7))), (some (6, true))⟩, (.leaf (.int .i64))⟩, ⟨⟨(some 9), (.op (.bin .leq (.t 8) (.c (.int .i64 1000000)))), (some (6, true))⟩, .no⟩, ⟨⟨(some 10), (.op (.pick (.t 6) (.t 9) (.c (.bool false)))), none⟩, .no⟩, ⟨⟨(some 11), (.op (.mv (.t 10))), none⟩, .no⟩, ⟨⟨(some 12), (.op (.fadr 1 (.t 1))), (some (11, true))⟩, .no⟩, ⟨⟨(some 13), (.op (.load false 1 (.t 12))), (some (11, true))⟩, (.leaf (.int .i64))⟩, ⟨⟨(some 14), (.op (.bin .geq (.t 13) (.c (.int .i64 (-1000000000000000))))), (some (11, true))⟩, .no⟩, ⟨⟨(some 15), (.op (.pick (.t 11) (.t 14) (.c (.bool false)))), none⟩, .no⟩, ⟨⟨(some 16), (.op (.mv (.t 15))), none⟩, .no⟩, ⟨⟨(some 17), (.op (.fadr 1 (.t 1))), (some (16, true))⟩, .no⟩, ⟨⟨(some 18), (.op (.load false 1 (.t 17))), (some (16, true))⟩, (.leaf (.int .i64))⟩, ⟨⟨(some 19), (.op (.bin .leq (.t 18) (.c (.int .i64 1000000000000000)))), (some (16, true))⟩, .no⟩, ⟨⟨(some 20), (.op (.pick (.t 16) (.t 19) (.c (.bool false)))), none⟩, .no⟩, ⟨⟨(some 2), (.op (.mv (.t 20))), none⟩, .no⟩])
def c22_2 : KC := .ret
def c22_3 : KC := (.seq c22_1 c22_2)
def c22_4 : KC := (.seq c22_0 c22_3)
def kf22 : KF := ⟨21, [(.tmp 2 none)], c22_4⟩
def kl22 : List (Nat × TI) := []
def kt22 : List (Nat × TI) := []
def c23_0 : KC := (.ops [⟨⟨(some 4), (.op (.mv (.c (.int .i64 0)))), none⟩, .no⟩])
def c23_1 : KC := (.ops [⟨⟨(some 5), (.op (.mv (.t 0))), none⟩, .no⟩, ⟨⟨(some 6), (.op (.bin .mul (.c (.int .i64 2300)) (.t 5))), none⟩, .no⟩, ⟨⟨(some 7), (.op (.mv (.t 1))), none⟩, .no⟩, ⟨⟨(some 8), (.op (.bin .mul (.t 6) (.t 7))), none⟩, .no⟩, ⟨⟨(some 4), (.op (.mv (.t 8))), none⟩, .no⟩])
def c23_2 : KC := .ret
def c23_3 : KC := (.seq c23_1 c23_2)
def c23_4 : KC := (.seq c23_0 c23_3)
def kf23 : KF := ⟨9, [(.tmp 4 none)], c23_4⟩
def kl23 : List (Nat × TI) := []
def kt23 : List (Nat × TI) := []

def tab : List (FuncId × KF) := [(3, kf3), (4, kf4), (5, kf5), (6, kf6), (7, kf7), (8, kf8), (9, kf9), (10, kf10), (11, kf11), (12, kf12), (13, kf13), (14, kf14), (15, kf15), (16, kf16), (17, kf17), (18, kf18), (19, kf19), (20, kf20), (21, kf21), (22, kf22), (23, kf23)]

def body (f : FuncId) : Option KF := tab.lookup f

theorem era3 : compF Try.prog G0 isS (kOf kl3) (ktOf kt3) Try.f3 = some kf3.era := by kernel_rfl
theorem era4 : compF Try.prog G0 isS (kOf kl4) (ktOf kt4) Try.f4 = some kf4.era := by kernel_rfl
theorem era5 : compF Try.prog G0 isS (kOf kl5) (ktOf kt5) Try.f5 = some kf5.era := by kernel_rfl
theorem era6 : compF Try.prog G0 isS (kOf kl6) (ktOf kt6) Try.f6 = some kf6.era := by kernel_rfl
theorem era7 : compF Try.prog G0 isS (kOf kl7) (ktOf kt7) Try.f7 = some kf7.era := by kernel_rfl
theorem era8 : compF Try.prog G0 isS (kOf kl8) (ktOf kt8) Try.f8 = some kf8.era := by kernel_rfl
theorem era9 : compF Try.prog G0 isS (kOf kl9) (ktOf kt9) Try.f9 = some kf9.era := by kernel_rfl
theorem era10 : compF Try.prog G0 isS (kOf kl10) (ktOf kt10) Try.f10 = some kf10.era := by kernel_rfl
theorem era11 : compF Try.prog G0 isS (kOf kl11) (ktOf kt11) Try.f11 = some kf11.era := by kernel_rfl
theorem era12 : compF Try.prog G0 isS (kOf kl12) (ktOf kt12) Try.f12 = some kf12.era := by kernel_rfl
theorem era13 : compF Try.prog G0 isS (kOf kl13) (ktOf kt13) Try.f13 = some kf13.era := by kernel_rfl
theorem era14 : compF Try.prog G0 isS (kOf kl14) (ktOf kt14) Try.f14 = some kf14.era := by kernel_rfl
theorem era15 : compF Try.prog G0 isS (kOf kl15) (ktOf kt15) Try.f15 = some kf15.era := by kernel_rfl
theorem era16 : compF Try.prog G0 isS (kOf kl16) (ktOf kt16) Try.f16 = some kf16.era := by kernel_rfl
theorem era17 : compF Try.prog G0 isS (kOf kl17) (ktOf kt17) Try.f17 = some kf17.era := by kernel_rfl
theorem era18 : compF Try.prog G0 isS (kOf kl18) (ktOf kt18) Try.f18 = some kf18.era := by kernel_rfl
theorem era19 : compF Try.prog G0 isS (kOf kl19) (ktOf kt19) Try.f19 = some kf19.era := by kernel_rfl
theorem era20 : compF Try.prog G0 isS (kOf kl20) (ktOf kt20) Try.f20 = some kf20.era := by kernel_rfl
theorem era21 : compF Try.prog G0 isS (kOf kl21) (ktOf kt21) Try.f21 = some kf21.era := by kernel_rfl
theorem era22 : compF Try.prog G0 isS (kOf kl22) (ktOf kt22) Try.f22 = some kf22.era := by kernel_rfl
theorem era23 : compF Try.prog G0 isS (kOf kl23) (ktOf kt23) Try.f23 = some kf23.era := by kernel_rfl

theorem bodyOK : BodyOK Try.prog G0 isS (eraB body) := by
  refine bodyK_of (tab := tab) ?_
  intro p hp
  simp only [tab, List.mem_cons, List.not_mem_nil, or_false] at hp
  rcases hp with rfl | rfl | rfl | rfl | rfl | rfl | rfl | rfl | rfl | rfl | rfl | rfl | rfl | rfl | rfl | rfl | rfl | rfl | rfl | rfl | rfl
  · exact ⟨Try.f3, kOf kl3, ktOf kt3, Try.func3, era3⟩
  · exact ⟨Try.f4, kOf kl4, ktOf kt4, Try.func4, era4⟩
  · exact ⟨Try.f5, kOf kl5, ktOf kt5, Try.func5, era5⟩
  · exact ⟨Try.f6, kOf kl6, ktOf kt6, Try.func6, era6⟩
  · exact ⟨Try.f7, kOf kl7, ktOf kt7, Try.func7, era7⟩
  · exact ⟨Try.f8, kOf kl8, ktOf kt8, Try.func8, era8⟩
  · exact ⟨Try.f9, kOf kl9, ktOf kt9, Try.func9, era9⟩
  · exact ⟨Try.f10, kOf kl10, ktOf kt10, Try.func10, era10⟩
  · exact ⟨Try.f11, kOf kl11, ktOf kt11, Try.func11, era11⟩
  · exact ⟨Try.f12, kOf kl12, ktOf kt12, Try.func12, era12⟩
  · exact ⟨Try.f13, kOf kl13, ktOf kt13, Try.func13, era13⟩
  · exact ⟨Try.f14, kOf kl14, ktOf kt14, Try.func14, era14⟩
  · exact ⟨Try.f15, kOf kl15, ktOf kt15, Try.func15, era15⟩
  · exact ⟨Try.f16, kOf kl16, ktOf kt16, Try.func16, era16⟩
  · exact ⟨Try.f17, kOf kl17, ktOf kt17, Try.func17, era17⟩
  · exact ⟨Try.f18, kOf kl18, ktOf kt18, Try.func18, era18⟩
  · exact ⟨Try.f19, kOf kl19, ktOf kt19, Try.func19, era19⟩
  · exact ⟨Try.f20, kOf kl20, ktOf kt20, Try.func20, era20⟩
  · exact ⟨Try.f21, kOf kl21, ktOf kt21, Try.func21, era21⟩
  · exact ⟨Try.f22, kOf kl22, ktOf kt22, Try.func22, era22⟩
  · exact ⟨Try.f23, kOf kl23, ktOf kt23, Try.func23, era23⟩

theorem callables_ok : isSl.all (callableB Try.prog) = true := by kernel_rfl

theorem callS (f : FuncId) (h : isS f = true) : Callable Try.prog f :=
  callable_of (List.all_eq_true.1 callables_ok f (by simpa [isS] using h))

theorem mix : Try.prog.follows .mixedOrders = true := by kernel_rfl
theorem laidOut : laidOutB Try.prog = true := by kernel_rfl
end Go.Proofs.Ytgkjmdbjncnlpaa
