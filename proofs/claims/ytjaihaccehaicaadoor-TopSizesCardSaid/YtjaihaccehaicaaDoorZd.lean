/- What the proof of the law needs: the abstract machine, the functions as it reads them, their contracts, part 4. -/
import Derived.Test.YtjaihaccehaicaaDoorZc
import Derived.Test.YtjaihaccehaicaaDoorProg
import Derived.KernelRfl
import Derived.RangeFuncRecord
import Derived.OrdersIn
import Derived.Shelf.SortG.Plain
import Derived.Shelf.SortG.SortNone
namespace Go.Proofs.YtjaihaccehaicaaDoor
open Go Go.Am Go.Proofs
def TABC : List AV := [.i .u8 0, .i .u8 1, .i .u8 56, .i .u8 2, .i .u8 57, .i .u8 49, .i .u8 28, .i .u8 3, .i .u8 61, .i .u8 58, .i .u8 42, .i .u8 50, .i .u8 38, .i .u8 29, .i .u8 17, .i .u8 4, .i .u8 62, .i .u8 47, .i .u8 59, .i .u8 36, .i .u8 45, .i .u8 43, .i .u8 51, .i .u8 22, .i .u8 53, .i .u8 39, .i .u8 33, .i .u8 30, .i .u8 24, .i .u8 18, .i .u8 12, .i .u8 5, .i .u8 63, .i .u8 55, .i .u8 48, .i .u8 27, .i .u8 60, .i .u8 41, .i .u8 37, .i .u8 16, .i .u8 46, .i .u8 35, .i .u8 44, .i .u8 21, .i .u8 52, .i .u8 32, .i .u8 23, .i .u8 11, .i .u8 54, .i .u8 26, .i .u8 40, .i .u8 15, .i .u8 34, .i .u8 20, .i .u8 31, .i .u8 10, .i .u8 25, .i .u8 14, .i .u8 19, .i .u8 9, .i .u8 13, .i .u8 8, .i .u8 7, .i .u8 6]
def q3 : List ARes := [.t 4]
def q4 : List ARes := [.t 8]
def q5 : List ARes := [.t 4]
def q6 : List ARes := [.t 8]
def c7r0 : List AOper := [
 ⟨(some 8), none, .box (.t 3)⟩,
 ⟨(some 10), none, .mv (.c (.b false))⟩]
def c7r1 : List AOper := [
 ⟨(some 21), none, .mv (.t 1)⟩,
 ⟨(some 22), none, .call (.c (.fn 11 [] [])) [(.t 21)]⟩,
 ⟨(some 23), none, .not (.t 22)⟩,
 ⟨(some 24), none, .mv (.t 23)⟩,
 ⟨(some 25), (some (24, false)), .mv (.t 2)⟩,
 ⟨(some 26), (some (24, false)), .bin false .lss (.t 25) (.c (.i .i64 0))⟩,
 ⟨(some 27), none, .pick (.t 24) (.c (.b true)) (.t 26)⟩,
 ⟨(some 28), none, .mv (.t 27)⟩,
 ⟨(some 29), (some (28, false)), .mv (.t 2)⟩,
 ⟨(some 30), (some (28, false)), .bin false .gtr (.t 29) (.c (.i .i64 3000))⟩,
 ⟨(some 31), none, .pick (.t 28) (.c (.b true)) (.t 30)⟩]
def c7r2 : List AOper := [
 ⟨(some 32), none, .call (.c (.fn 24 [] [])) []⟩,
 ⟨(some 10), none, .mv (.t 32)⟩]
def c7r3 : List AOper := [
 ⟨(some 33), none, .mv (.t 1)⟩,
 ⟨(some 34), none, .mv (.t 2)⟩,
 ⟨(some 35), none, .call (.c (.fn 25 [] [])) [(.t 33), (.t 34)]⟩,
 ⟨(some 36), none, .not (.t 35)⟩]
def c7r4 : List AOper := [
 ⟨(some 10), none, .mv (.c (.b false))⟩]
def c7r5 : List AOper := [
 ⟨(some 38), none, .mv (.t 0)⟩,
 ⟨(some 39), none, .mv (.t 1)⟩,
 ⟨(some 40), none, .call (.c (.fn 18 [] [])) [(.t 38), (.t 39)]⟩,
 ⟨(some 37), none, .mv (.t 40)⟩,
 ⟨(some 41), none, .ext (.t 37) 0⟩,
 ⟨(some 42), none, .ext (.t 37) 1⟩,
 ⟨(some 11), none, .mv (.t 41)⟩,
 ⟨(some 12), none, .mv (.t 42)⟩]
def c7r6 : List AOper := [
 ⟨(some 43), none, .mv (.t 12)⟩,
 ⟨(some 44), none, .bin false .neq (.t 43) (.c (.i .i64 0))⟩]
def c7r7 : List AOper := [
 ⟨(some 45), none, .call (.c (.fn 24 [] [])) []⟩,
 ⟨(some 10), none, .mv (.t 45)⟩]
def c7r8 : List AOper := [
 ⟨(some 46), none, .mv (.t 11)⟩,
 ⟨(some 47), none, .len (.t 46)⟩,
 ⟨(some 48), none, .mv (.c (.i .i64 0))⟩]
def c7r9 : List AOper := [
 ⟨(some 49), none, .bin false .lss (.t 48) (.t 47)⟩]
def c7r10 : List AOper := [
 ⟨(some 50), none, .mv (.t 48)⟩,
 ⟨(some 13), none, .mv (.t 50)⟩]
def c7r11 : List AOper := [
 ⟨(some 51), none, .bsl 1 [] []⟩,
 ⟨(some 52), none, .mv (.t 11)⟩,
 ⟨(some 53), none, .mv (.t 13)⟩,
 ⟨(some 54), none, .sli 1 (.t 52) none (some (.t 53))⟩,
 ⟨(some 55), none, .app 1 8 (.t 51) (.t 54)⟩,
 ⟨(some 56), none, .mv (.t 11)⟩,
 ⟨(some 57), none, .mv (.t 13)⟩,
 ⟨(some 58), none, .bin false .add (.t 57) (.c (.i .i64 1))⟩,
 ⟨(some 59), none, .sli 1 (.t 56) (some (.t 58)) none⟩,
 ⟨(some 60), none, .app 1 8 (.t 55) (.t 59)⟩,
 ⟨(some 14), none, .mv (.t 60)⟩]
def c7r12 : List AOper := [
 ⟨(some 62), none, .mv (.t 0)⟩,
 ⟨(some 63), none, .mv (.t 1)⟩,
 ⟨(some 64), none, .mv (.t 14)⟩,
 ⟨(some 65), none, .call (.c (.fn 22 [] [])) [(.t 62), (.t 63), (.t 64)]⟩,
 ⟨(some 61), none, .mv (.t 65)⟩,
 ⟨(some 66), none, .ext (.t 61) 0⟩,
 ⟨(some 67), none, .ext (.t 61) 1⟩,
 ⟨(some 15), none, .mv (.t 66)⟩,
 ⟨(some 16), none, .mv (.t 67)⟩]
def c7r13 : List AOper := [
 ⟨(some 68), none, .mv (.t 15)⟩,
 ⟨(some 69), none, .mv (.t 68)⟩,
 ⟨(some 70), (some (69, false)), .mv (.t 16)⟩,
 ⟨(some 71), (some (69, false)), .bin false .neq (.t 70) (.c (.i .i64 0))⟩,
 ⟨(some 72), none, .pick (.t 69) (.c (.b true)) (.t 71)⟩]
def c7r14 : List AOper := [
 ⟨(some 10), none, .mv (.c (.b false))⟩]
def c7r15 : List AOper := [
 ⟨(some 73), none, .bin false .add (.t 48) (.c (.i .i64 1))⟩,
 ⟨(some 48), none, .mv (.t 73)⟩]
abbrev c7b16 : AC := (.seq (.reg c7r9) (.seq (.cond (.t 49) .skip (.exit 0)) (.seq (.blk 1 (.seq (.reg c7r10) (.seq (.head 9 c7r11) (.seq (.reg c7r12) (.seq (.reg c7r13) (.cond (.t 72) (.seq (.reg c7r14) .ret) .skip)))))) (.reg c7r15))))
def c7r17 : List AOper := [
 ⟨(some 74), none, .mv (.t 1)⟩,
 ⟨(some 75), none, .len (.t 74)⟩,
 ⟨(some 76), none, .mv (.c (.i .i64 0))⟩]
def c7r18 : List AOper := [
 ⟨(some 77), none, .bin false .lss (.t 76) (.t 75)⟩]
def c7r19 : List AOper := [
 ⟨(some 78), none, .ia 6 (.t 74) (.t 76)⟩,
 ⟨(some 79), none, .ld (some 6) (.t 78)⟩,
 ⟨(some 18), none, .alloc [.i .i64 0, .i .i64 0, .i .i64 0, .i .i64 0, .i .i64 0, .i .i64 0]⟩,
 ⟨none, none, .sto (some 6) (.t 18) (.t 79)⟩]
def c7r20 : List AOper := [
 ⟨(some 81), none, .mv (.t 0)⟩,
 ⟨(some 82), none, .ld (some 6) (.t 18)⟩,
 ⟨(some 83), none, .call (.c (.fn 15 [] [])) [(.t 81), (.t 82)]⟩,
 ⟨(some 80), none, .mv (.t 83)⟩,
 ⟨(some 84), none, .ext (.t 80) 0⟩,
 ⟨(some 85), none, .ext (.t 80) 1⟩,
 ⟨(some 19), none, .mv (.t 84)⟩,
 ⟨(some 20), none, .mv (.t 85)⟩]
def c7r21 : List AOper := [
 ⟨(some 86), none, .mv (.t 20)⟩,
 ⟨(some 87), none, .bin false .neq (.t 86) (.c (.i .i64 0))⟩,
 ⟨(some 88), none, .mv (.t 87)⟩,
 ⟨(some 89), (some (88, false)), .mv (.t 19)⟩,
 ⟨(some 90), (some (88, false)), .bin false .lss (.t 89) (.c (.i .i64 0))⟩,
 ⟨(some 91), none, .pick (.t 88) (.c (.b true)) (.t 90)⟩,
 ⟨(some 92), none, .mv (.t 91)⟩,
 ⟨(some 93), (some (92, false)), .mv (.t 19)⟩,
 ⟨(some 94), (some (92, false)), .mv (.t 0)⟩,
 ⟨(some 95), (some (92, false)), .len (.t 94)⟩,
 ⟨(some 96), (some (92, false)), .bin false .geq (.t 93) (.t 95)⟩,
 ⟨(some 97), none, .pick (.t 92) (.c (.b true)) (.t 96)⟩,
 ⟨(some 98), none, .mv (.t 97)⟩,
 ⟨(some 99), (some (98, false)), .mv (.t 0)⟩,
 ⟨(some 100), (some (98, false)), .ld (some 6) (.t 18)⟩,
 ⟨(some 101), (some (98, false)), .mv (.t 19)⟩,
 ⟨(some 102), (some (98, false)), .call (.c (.fn 26 [] [])) [(.t 99), (.t 100), (.t 101)]⟩,
 ⟨(some 103), (some (98, false)), .not (.t 102)⟩,
 ⟨(some 104), none, .pick (.t 98) (.c (.b true)) (.t 103)⟩]
def c7r22 : List AOper := [
 ⟨(some 10), none, .mv (.c (.b false))⟩]
def c7r23 : List AOper := [
 ⟨(some 105), none, .bin false .add (.t 76) (.c (.i .i64 1))⟩,
 ⟨(some 76), none, .mv (.t 105)⟩]
abbrev c7b24 : AC := (.seq (.reg c7r18) (.seq (.cond (.t 77) .skip (.exit 2)) (.seq (.blk 3 (.seq (.reg c7r19) (.seq (.reg c7r20) (.seq (.reg c7r21) (.cond (.t 104) (.seq (.reg c7r22) .ret) .skip))))) (.reg c7r23))))
def c7r25 : List AOper := [
 ⟨(some 106), none, .mv (.t 0)⟩,
 ⟨(some 107), none, .mv (.t 1)⟩,
 ⟨(some 108), none, .ld (some 5) (.t 8)⟩,
 ⟨(some 109), none, .mv (.t 4)⟩,
 ⟨(some 110), none, .mv (.t 11)⟩,
 ⟨(some 111), none, .call (.c (.fn 27 [] [])) [(.t 106), (.t 107), (.t 108), (.t 109), (.t 110)]⟩,
 ⟨(some 112), none, .mv (.t 111)⟩,
 ⟨(some 113), (some (112, true)), .call (.c (.fn 24 [] [])) []⟩,
 ⟨(some 114), none, .pick (.t 112) (.t 113) (.c (.b false))⟩,
 ⟨(some 10), none, .mv (.t 114)⟩]
abbrev c7 : AC := (.seq (.reg c7r0) (.seq (.seq (.reg c7r1) (.cond (.t 31) (.seq (.reg c7r2) .ret) .skip)) (.seq (.seq (.reg c7r3) (.cond (.t 36) (.seq (.reg c7r4) .ret) .skip)) (.seq (.reg c7r5) (.seq (.seq (.reg c7r6) (.cond (.t 44) (.seq (.reg c7r7) .ret) .skip)) (.seq (.seq (.reg c7r8) (.blk 0 (.loop c7b16))) (.seq (.seq (.reg c7r17) (.blk 2 (.loop c7b24))) (.seq (.reg c7r25) .ret))))))))
def q7 : List ARes := [.t 10]
theorem fn7 : fnOf Tryd.prog 7 = some (c7, q7, 115) := by kernel_rfl
def c8r0 : List AOper := [
 ⟨(some 2), none, .mv (.c (.b false))⟩]
def c8r1 : List AOper := [
 ⟨(some 3), none, .mv (.t 0)⟩,
 ⟨(some 4), none, .len (.t 3)⟩,
 ⟨(some 5), none, .bin false .leq (.t 4) (.c (.i .i64 20))⟩,
 ⟨(some 6), none, .mv (.t 5)⟩,
 ⟨(some 7), (some (6, true)), .mv (.t 0)⟩,
 ⟨(some 8), (some (6, true)), .call (.c (.fn 28 [] [])) [(.t 7), (.c (.fn 29 [] []))]⟩,
 ⟨(some 9), (some (6, true)), .not (.t 8)⟩,
 ⟨(some 10), none, .pick (.t 6) (.t 9) (.c (.b false))⟩,
 ⟨(some 11), none, .mv (.t 10)⟩,
 ⟨(some 12), (some (11, true)), .mv (.t 0)⟩,
 ⟨(some 13), (some (11, true)), .call (.c (.fn 31 [] [])) [(.t 12), (.c (.fn 32 [] []))]⟩,
 ⟨(some 14), none, .pick (.t 11) (.t 13) (.c (.b false))⟩,
 ⟨(some 2), none, .mv (.t 14)⟩]
abbrev c8 : AC := (.seq (.reg c8r0) (.seq (.reg c8r1) .ret))
def q8 : List ARes := [.t 2]
theorem fn8 : fnOf Tryd.prog 8 = some (c8, q8, 15) := by kernel_rfl
def c10r0 : List AOper := [
 ⟨(some 2), none, .mv (.c (.b false))⟩]
def c10r1 : List AOper := [
 ⟨(some 3), none, .mv (.t 0)⟩,
 ⟨(some 4), none, .len (.t 3)⟩,
 ⟨(some 5), none, .bin false .leq (.t 4) (.c (.i .i64 40))⟩,
 ⟨(some 6), none, .mv (.t 5)⟩,
 ⟨(some 7), (some (6, true)), .mv (.t 0)⟩,
 ⟨(some 8), (some (6, true)), .call (.c (.fn 34 [] [])) [(.t 7), (.c (.fn 35 [] []))]⟩,
 ⟨(some 9), (some (6, true)), .not (.t 8)⟩,
 ⟨(some 10), none, .pick (.t 6) (.t 9) (.c (.b false))⟩,
 ⟨(some 11), none, .mv (.t 10)⟩,
 ⟨(some 12), (some (11, true)), .mv (.t 0)⟩,
 ⟨(some 13), (some (11, true)), .call (.c (.fn 37 [] [])) [(.t 12), (.c (.fn 38 [] []))]⟩,
 ⟨(some 14), none, .pick (.t 11) (.t 13) (.c (.b false))⟩,
 ⟨(some 2), none, .mv (.t 14)⟩]
abbrev c10 : AC := (.seq (.reg c10r0) (.seq (.reg c10r1) .ret))
def q10 : List ARes := [.t 2]
theorem fn10 : fnOf Tryd.prog 10 = some (c10, q10, 15) := by kernel_rfl
def c11r0 : List AOper := [
 ⟨(some 2), none, .mv (.c (.b false))⟩]
def c11r1 : List AOper := [
 ⟨(some 7), none, .mv (.t 0)⟩,
 ⟨(some 8), none, .len (.t 7)⟩,
 ⟨(some 9), none, .mv (.c (.i .i64 0))⟩]
def c11r2 : List AOper := [
 ⟨(some 10), none, .bin false .lss (.t 9) (.t 8)⟩]
def c11r3 : List AOper := [
 ⟨(some 11), none, .mv (.t 9)⟩,
 ⟨(some 12), none, .ia 6 (.t 7) (.t 9)⟩,
 ⟨(some 13), none, .ld (some 6) (.t 12)⟩,
 ⟨(some 4), none, .alloc [.i .i64 0, .i .i64 0, .i .i64 0, .i .i64 0, .i .i64 0, .i .i64 0]⟩,
 ⟨(some 3), none, .mv (.t 11)⟩,
 ⟨none, none, .sto (some 6) (.t 4) (.t 13)⟩]
def c11r4 : List AOper := [
 ⟨(some 14), none, .ld (some 6) (.t 4)⟩,
 ⟨(some 15), none, .call (.c (.fn 39 [] [])) [(.t 14)]⟩,
 ⟨(some 16), none, .not (.t 15)⟩]
def c11r5 : List AOper := [
 ⟨(some 2), none, .mv (.c (.b false))⟩]
def c11r6 : List AOper := [
 ⟨(some 17), none, .mv (.t 0)⟩,
 ⟨(some 18), none, .mv (.t 3)⟩,
 ⟨(some 19), none, .sli 6 (.t 17) none (some (.t 18))⟩,
 ⟨(some 20), none, .len (.t 19)⟩,
 ⟨(some 21), none, .mv (.c (.i .i64 0))⟩]
def c11r7 : List AOper := [
 ⟨(some 22), none, .bin false .lss (.t 21) (.t 20)⟩]
def c11r8 : List AOper := [
 ⟨(some 23), none, .ia 6 (.t 19) (.t 21)⟩,
 ⟨(some 24), none, .ld (some 6) (.t 23)⟩,
 ⟨(some 6), none, .alloc [.i .i64 0, .i .i64 0, .i .i64 0, .i .i64 0, .i .i64 0, .i .i64 0]⟩,
 ⟨none, none, .sto (some 6) (.t 6) (.t 24)⟩]
def c11r9 : List AOper := [
 ⟨(some 25), none, .fa (.t 6) 0⟩,
 ⟨(some 26), none, .ld none (.t 25)⟩,
 ⟨(some 27), none, .fa (.t 4) 0⟩,
 ⟨(some 28), none, .ld none (.t 27)⟩,
 ⟨(some 29), none, .bin false .eql (.t 26) (.t 28)⟩]
def c11r10 : List AOper := [
 ⟨(some 2), none, .mv (.c (.b false))⟩]
def c11r11 : List AOper := [
 ⟨(some 30), none, .bin false .add (.t 21) (.c (.i .i64 1))⟩,
 ⟨(some 21), none, .mv (.t 30)⟩]
abbrev c11b12 : AC := (.seq (.reg c11r7) (.seq (.cond (.t 22) .skip (.exit 2)) (.seq (.blk 3 (.seq (.reg c11r8) (.seq (.reg c11r9) (.cond (.t 29) (.seq (.reg c11r10) .ret) .skip)))) (.reg c11r11))))
def c11r13 : List AOper := [
 ⟨(some 31), none, .bin false .add (.t 9) (.c (.i .i64 1))⟩,
 ⟨(some 9), none, .mv (.t 31)⟩]
abbrev c11b14 : AC := (.seq (.reg c11r2) (.seq (.cond (.t 10) .skip (.exit 0)) (.seq (.blk 1 (.seq (.reg c11r3) (.seq (.seq (.reg c11r4) (.cond (.t 16) (.seq (.reg c11r5) .ret) .skip)) (.seq (.reg c11r6) (.blk 2 (.loop c11b12)))))) (.reg c11r13))))
def c11r15 : List AOper := [
 ⟨(some 32), none, .mv (.t 0)⟩,
 ⟨(some 33), none, .len (.t 32)⟩,
 ⟨(some 34), none, .bin false .leq (.t 33) (.c (.i .i64 40))⟩,
 ⟨(some 2), none, .mv (.t 34)⟩]
abbrev c11 : AC := (.seq (.reg c11r0) (.seq (.seq (.reg c11r1) (.blk 0 (.loop c11b14))) (.seq (.reg c11r15) .ret)))
def q11 : List ARes := [.t 2]
theorem fn11 : fnOf Tryd.prog 11 = some (c11, q11, 35) := by kernel_rfl
def c15r0 : List AOper := [
 ⟨(some 3), none, .box (.t 1)⟩,
 ⟨(some 4), none, .mv (.c (.i .i64 0))⟩,
 ⟨(some 5), none, .mv (.c (.i .i64 0))⟩]
def c15r1 : List AOper := [
 ⟨(some 13), none, .mv (.t 0)⟩,
 ⟨(some 14), none, .ld (some 6) (.t 3)⟩,
 ⟨(some 15), none, .bsl 6 [.i .i64 0, .i .i64 0, .i .i64 0, .i .i64 0, .i .i64 0, .i .i64 0] [(0, 6, (.t 14))]⟩,
 ⟨(some 16), none, .call (.c (.fn 40 [] [])) [(.t 13), (.t 15)]⟩,
 ⟨(some 6), none, .mv (.t 16)⟩]
def c15r2 : List AOper := [
 ⟨(some 17), none, .mv (.t 6)⟩,
 ⟨(some 18), none, .bin false .neq (.t 17) (.c (.i .i64 0))⟩]
def c15r3 : List AOper := [
 ⟨(some 19), none, .mv (.t 6)⟩,
 ⟨(some 4), none, .mv (.c (.i .i64 0))⟩,
 ⟨(some 5), none, .mv (.t 19)⟩]
def c15r4 : List AOper := [
 ⟨(some 7), none, .mv (.c (.i .i64 (-1)))⟩,
 ⟨(some 8), none, .mv (.c (.i .i64 0))⟩]
def c15r5 : List AOper := [
 ⟨(some 20), none, .mv (.t 0)⟩,
 ⟨(some 21), none, .len (.t 20)⟩,
 ⟨(some 22), none, .mv (.c (.i .i64 0))⟩]
def c15r6 : List AOper := [
 ⟨(some 23), none, .bin false .lss (.t 22) (.t 21)⟩]
def c15r7 : List AOper := [
 ⟨(some 24), none, .mv (.t 22)⟩,
 ⟨(some 25), none, .ia 17 (.t 20) (.t 22)⟩,
 ⟨(some 26), none, .ld (some 17) (.t 25)⟩,
 ⟨(some 10), none, .alloc [.i .i64 0, .i .i64 0, .i .i64 0, .i .i64 0, .i .i64 0, .i .i64 0, .i .i64 0, .i .i64 0, .i .i64 0, .i .i64 0, .i .i64 0, .i .i64 0, .i .i64 0, .i .i64 0, .i .i64 0, .i .i64 0, .i .i64 0]⟩,
 ⟨(some 9), none, .mv (.t 24)⟩,
 ⟨none, none, .sto (some 17) (.t 10) (.t 26)⟩]
def c15r8 : List AOper := [
 ⟨(some 28), none, .ld (some 17) (.t 10)⟩,
 ⟨(some 29), none, .ld (some 6) (.t 3)⟩,
 ⟨(some 30), none, .call (.c (.fn 46 [] [])) [(.t 28), (.t 29)]⟩,
 ⟨(some 27), none, .mv (.t 30)⟩,
 ⟨(some 31), none, .ext (.t 27) 0⟩,
 ⟨(some 32), none, .ext (.t 27) 1⟩,
 ⟨(some 11), none, .alloc [.i .i64 0, .i .i64 0, .i .i64 0, .i .i64 0, .i .i64 0]⟩,
 ⟨none, none, .sto (some 5) (.t 11) (.t 31)⟩,
 ⟨(some 12), none, .mv (.t 32)⟩]
def c15r9 : List AOper := [
 ⟨(some 33), none, .ld (some 17) (.t 10)⟩,
 ⟨(some 34), none, .ld (some 6) (.t 3)⟩,
 ⟨(some 35), none, .call (.c (.fn 47 [] [])) [(.t 33), (.t 34)]⟩,
 ⟨(some 36), none, .len (.t 35)⟩,
 ⟨(some 37), none, .bin false .gtr (.t 36) (.c (.i .i64 0))⟩]
def c15r10 : List AOper := [
 ⟨(some 38), none, .mv (.t 7)⟩,
 ⟨(some 39), none, .bin false .lss (.t 38) (.c (.i .i64 0))⟩,
 ⟨(some 40), none, .mv (.t 39)⟩,
 ⟨(some 41), (some (40, false)), .mv (.t 12)⟩,
 ⟨(some 42), (some (40, false)), .mv (.t 8)⟩,
 ⟨(some 43), (some (40, false)), .bin false .lss (.t 41) (.t 42)⟩,
 ⟨(some 44), none, .pick (.t 40) (.c (.b true)) (.t 43)⟩,
 ⟨(some 45), none, .mv (.t 44)⟩,
 ⟨(some 46), (some (45, false)), .mv (.t 12)⟩,
 ⟨(some 47), (some (45, false)), .mv (.t 8)⟩,
 ⟨(some 48), (some (45, false)), .bin false .eql (.t 46) (.t 47)⟩,
 ⟨(some 49), (some (45, false)), .mv (.t 48)⟩,
 ⟨(some 50), (some (49, true)), .fa (.t 10) 0⟩,
 ⟨(some 51), (some (49, true)), .ld none (.t 50)⟩,
 ⟨(some 52), (some (49, true)), .mv (.t 0)⟩,
 ⟨(some 53), (some (49, true)), .mv (.t 7)⟩,
 ⟨(some 54), (some (49, true)), .ia 17 (.t 52) (.t 53)⟩,
 ⟨(some 55), (some (49, true)), .fa (.t 54) 0⟩,
 ⟨(some 56), (some (49, true)), .ld none (.t 55)⟩,
 ⟨(some 57), (some (49, true)), .bin false .lss (.t 51) (.t 56)⟩,
 ⟨(some 58), (some (45, false)), .pick (.t 49) (.t 57) (.c (.b false))⟩,
 ⟨(some 59), none, .pick (.t 45) (.c (.b true)) (.t 58)⟩]
def c15r11 : List AOper := [
 ⟨(some 60), none, .mv (.t 9)⟩,
 ⟨(some 61), none, .mv (.t 12)⟩,
 ⟨(some 7), none, .mv (.t 60)⟩,
 ⟨(some 8), none, .mv (.t 61)⟩]
def c15r12 : List AOper := [
 ⟨(some 62), none, .bin false .add (.t 22) (.c (.i .i64 1))⟩,
 ⟨(some 22), none, .mv (.t 62)⟩]
abbrev c15b13 : AC := (.seq (.reg c15r6) (.seq (.cond (.t 23) .skip (.exit 0)) (.seq (.blk 1 (.seq (.reg c15r7) (.seq (.reg c15r8) (.seq (.seq (.reg c15r9) (.cond (.t 37) (.exit 1) .skip)) (.seq (.head 19 c15r10) (.cond (.t 59) (.reg c15r11) .skip)))))) (.reg c15r12))))
def c15r14 : List AOper := [
 ⟨(some 63), none, .mv (.t 7)⟩,
 ⟨(some 64), none, .bin false .lss (.t 63) (.c (.i .i64 0))⟩]
def c15r15 : List AOper := [
 ⟨(some 4), none, .mv (.c (.i .i64 0))⟩,
 ⟨(some 5), none, .mv (.c (.i .i64 32))⟩]
def c15r16 : List AOper := [
 ⟨(some 65), none, .mv (.t 7)⟩,
 ⟨(some 4), none, .mv (.t 65)⟩,
 ⟨(some 5), none, .mv (.c (.i .i64 0))⟩]
abbrev c15 : AC := (.seq (.reg c15r0) (.seq (.seq (.reg c15r1) (.seq (.reg c15r2) (.cond (.t 18) (.seq (.reg c15r3) .ret) .skip))) (.seq (.reg c15r4) (.seq (.seq (.reg c15r5) (.blk 0 (.loop c15b13))) (.seq (.seq (.reg c15r14) (.cond (.t 64) (.seq (.reg c15r15) .ret) .skip)) (.seq (.reg c15r16) .ret))))))
def q15 : List ARes := [.t 4, .t 5]
theorem fn15 : fnOf Tryd.prog 15 = some (c15, q15, 66) := by kernel_rfl
def c18r0 : List AOper := [
 ⟨(some 4), none, .mv (.c (.sl 0 0 0 0))⟩,
 ⟨(some 5), none, .mv (.c (.i .i64 0))⟩]
def c18r1 : List AOper := [
 ⟨(some 16), none, .mv (.t 0)⟩,
 ⟨(some 17), none, .mv (.t 1)⟩,
 ⟨(some 18), none, .call (.c (.fn 40 [] [])) [(.t 16), (.t 17)]⟩,
 ⟨(some 6), none, .mv (.t 18)⟩]
def c18r2 : List AOper := [
 ⟨(some 19), none, .mv (.t 6)⟩,
 ⟨(some 20), none, .bin false .neq (.t 19) (.c (.i .i64 0))⟩]
def c18r3 : List AOper := [
 ⟨(some 21), none, .mv (.t 6)⟩,
 ⟨(some 4), none, .mv (.c (.sl 0 0 0 0))⟩,
 ⟨(some 5), none, .mv (.t 21)⟩]
def c18r4 : List AOper := [
 ⟨(some 22), none, .mv (.t 0)⟩,
 ⟨(some 23), none, .len (.t 22)⟩,
 ⟨(some 24), none, .bin false .gtr (.t 23) (.c (.i .i64 12))⟩]
def c18r5 : List AOper := [
 ⟨(some 4), none, .mv (.c (.sl 0 0 0 0))⟩,
 ⟨(some 5), none, .mv (.c (.i .i64 4))⟩]
def c18r6 : List AOper := [
 ⟨(some 25), none, .mv (.t 0)⟩,
 ⟨(some 26), none, .mv (.t 1)⟩,
 ⟨(some 27), none, .call (.c (.fn 41 [] [])) [(.t 25), (.t 26)]⟩,
 ⟨(some 7), none, .mv (.t 27)⟩]
def c18r7 : List AOper := [
 ⟨(some 28), none, .mv (.t 1)⟩,
 ⟨(some 29), none, .len (.t 28)⟩,
 ⟨(some 30), none, .bin false .shl (.c (.i .u64 1)) (.t 29)⟩,
 ⟨(some 31), none, .bin false .sub (.t 30) (.c (.i .u64 1))⟩,
 ⟨(some 8), none, .mv (.t 31)⟩]
def c18r8 : List AOper := [
 ⟨(some 9), none, .mv (.c (.sl 0 0 0 0))⟩]
def c18r9 : List AOper := [
 ⟨(some 10), none, .mv (.c (.b false))⟩]
def c18r10 : List AOper := [
 ⟨(some 32), none, .mv (.t 0)⟩,
 ⟨(some 33), none, .len (.t 32)⟩,
 ⟨(some 34), none, .bin false .shl (.c (.i .i64 1)) (.t 33)⟩,
 ⟨(some 35), none, .mv (.c (.i .i64 0))⟩]
def c18r11 : List AOper := [
 ⟨(some 36), none, .bin false .lss (.t 35) (.t 34)⟩]
def c18r12 : List AOper := [
 ⟨(some 37), none, .mv (.t 35)⟩,
 ⟨(some 11), none, .mv (.t 37)⟩]
def c18r13 : List AOper := [
 ⟨(some 12), none, .mv (.c (.i .u64 0))⟩]
def c18r14 : List AOper := [
 ⟨(some 38), none, .mv (.t 11)⟩,
 ⟨(some 39), none, .conv .u64 (.t 38)⟩,
 ⟨(some 40), none, .call (.c (.fn 43 [] [])) [(.t 39)]⟩,
 ⟨(some 41), none, .call (.c (.fn 42 [] [])) [(.t 40)]⟩,
 ⟨(some 13), none, .mv (.t 41)⟩]
def c18r15 : List AOper := [
 ⟨(some 42), none, .mv (.t 13)⟩,
 ⟨(some 43), none, .len (.t 42)⟩,
 ⟨(some 44), none, .mv (.c (.i .i64 0))⟩]
def c18r16 : List AOper := [
 ⟨(some 45), none, .bin false .lss (.t 44) (.t 43)⟩]
def c18r17 : List AOper := [
 ⟨(some 46), none, .ia 1 (.t 42) (.t 44)⟩,
 ⟨(some 47), none, .ld none (.t 46)⟩,
 ⟨(some 15), none, .mv (.t 47)⟩]
def c18r18 : List AOper := [
 ⟨(some 48), none, .mv (.t 12)⟩,
 ⟨(some 49), none, .mv (.t 7)⟩,
 ⟨(some 50), none, .mv (.t 15)⟩,
 ⟨(some 51), none, .ia 1 (.t 49) (.t 50)⟩,
 ⟨(some 52), none, .ld none (.t 51)⟩,
 ⟨(some 53), none, .bin false .or (.t 48) (.t 52)⟩,
 ⟨(some 12), none, .mv (.t 53)⟩]
def c18r19 : List AOper := [
 ⟨(some 54), none, .bin false .add (.t 44) (.c (.i .i64 1))⟩,
 ⟨(some 44), none, .mv (.t 54)⟩]
abbrev c18b20 : AC := (.seq (.reg c18r16) (.seq (.cond (.t 45) .skip (.exit 2)) (.seq (.blk 3 (.seq (.reg c18r17) (.reg c18r18))) (.reg c18r19))))
def c18r21 : List AOper := [
 ⟨(some 55), none, .mv (.t 12)⟩,
 ⟨(some 56), none, .mv (.t 8)⟩,
 ⟨(some 57), none, .bin false .eql (.t 55) (.t 56)⟩,
 ⟨(some 58), none, .mv (.t 57)⟩,
 ⟨(some 59), (some (58, true)), .mv (.t 10)⟩,
 ⟨(some 60), (some (58, true)), .not (.t 59)⟩,
 ⟨(some 61), (some (58, true)), .mv (.t 60)⟩,
 ⟨(some 62), (some (61, false)), .mv (.t 13)⟩,
 ⟨(some 63), (some (61, false)), .len (.t 62)⟩,
 ⟨(some 64), (some (61, false)), .mv (.t 9)⟩,
 ⟨(some 65), (some (61, false)), .len (.t 64)⟩,
 ⟨(some 66), (some (61, false)), .bin false .lss (.t 63) (.t 65)⟩,
 ⟨(some 67), (some (58, true)), .pick (.t 61) (.c (.b true)) (.t 66)⟩,
 ⟨(some 68), (some (58, true)), .mv (.t 67)⟩,
 ⟨(some 69), (some (68, false)), .mv (.t 13)⟩,
 ⟨(some 70), (some (68, false)), .len (.t 69)⟩,
 ⟨(some 71), (some (68, false)), .mv (.t 9)⟩,
 ⟨(some 72), (some (68, false)), .len (.t 71)⟩,
 ⟨(some 73), (some (68, false)), .bin false .eql (.t 70) (.t 72)⟩,
 ⟨(some 74), (some (68, false)), .mv (.t 73)⟩,
 ⟨(some 75), (some (74, true)), .mv (.t 13)⟩,
 ⟨(some 76), (some (74, true)), .mv (.t 9)⟩,
 ⟨(some 77), (some (74, true)), .call (.c (.fn 50 [] [])) [(.t 75), (.t 76)]⟩,
 ⟨(some 78), (some (74, true)), .bin false .lss (.t 77) (.c (.i .i64 0))⟩,
 ⟨(some 79), (some (68, false)), .pick (.t 74) (.t 78) (.c (.b false))⟩,
 ⟨(some 80), (some (58, true)), .pick (.t 68) (.c (.b true)) (.t 79)⟩,
 ⟨(some 81), none, .pick (.t 58) (.t 80) (.c (.b false))⟩]
def c18r22 : List AOper := [
 ⟨(some 82), none, .mv (.t 13)⟩,
 ⟨(some 9), none, .mv (.t 82)⟩,
 ⟨(some 10), none, .mv (.c (.b true))⟩]
def c18r23 : List AOper := [
 ⟨(some 83), none, .bin false .add (.t 35) (.c (.i .i64 1))⟩,
 ⟨(some 35), none, .mv (.t 83)⟩]
abbrev c18b24 : AC := (.seq (.reg c18r11) (.seq (.cond (.t 36) .skip (.exit 0)) (.seq (.blk 1 (.seq (.reg c18r12) (.seq (.reg c18r13) (.seq (.reg c18r14) (.seq (.seq (.reg c18r15) (.blk 2 (.loop c18b20))) (.seq (.reg c18r21) (.cond (.t 81) (.reg c18r22) .skip))))))) (.reg c18r23))))
def c18r25 : List AOper := [
 ⟨(some 84), none, .mv (.t 10)⟩,
 ⟨(some 85), none, .not (.t 84)⟩]
def c18r26 : List AOper := [
 ⟨(some 4), none, .mv (.c (.sl 0 0 0 0))⟩,
 ⟨(some 5), none, .mv (.c (.i .i64 32))⟩]
def c18r27 : List AOper := [
 ⟨(some 86), none, .mv (.t 9)⟩,
 ⟨(some 4), none, .mv (.t 86)⟩,
 ⟨(some 5), none, .mv (.c (.i .i64 0))⟩]
abbrev c18 : AC := (.seq (.reg c18r0) (.seq (.seq (.reg c18r1) (.seq (.reg c18r2) (.cond (.t 20) (.seq (.reg c18r3) .ret) .skip))) (.seq (.seq (.reg c18r4) (.cond (.t 24) (.seq (.reg c18r5) .ret) .skip)) (.seq (.reg c18r6) (.seq (.reg c18r7) (.seq (.reg c18r8) (.seq (.reg c18r9) (.seq (.seq (.reg c18r10) (.blk 0 (.loop c18b24))) (.seq (.seq (.reg c18r25) (.cond (.t 85) (.seq (.reg c18r26) .ret) .skip)) (.seq (.reg c18r27) .ret))))))))))
def q18 : List ARes := [.t 4, .t 5]
theorem fn18 : fnOf Tryd.prog 18 = some (c18, q18, 87) := by kernel_rfl
def c22r0 : List AOper := [
 ⟨(some 6), none, .mv (.c (.b false))⟩,
 ⟨(some 7), none, .mv (.c (.i .i64 0))⟩]
def c22r1 : List AOper := [
 ⟨(some 13), none, .mv (.t 0)⟩,
 ⟨(some 14), none, .mv (.t 1)⟩,
 ⟨(some 15), none, .call (.c (.fn 40 [] [])) [(.t 13), (.t 14)]⟩,
 ⟨(some 8), none, .mv (.t 15)⟩]
def c22r2 : List AOper := [
 ⟨(some 16), none, .mv (.t 8)⟩,
 ⟨(some 17), none, .bin false .neq (.t 16) (.c (.i .i64 0))⟩]
def c22r3 : List AOper := [
 ⟨(some 18), none, .mv (.t 8)⟩,
 ⟨(some 6), none, .mv (.c (.b false))⟩,
 ⟨(some 7), none, .mv (.t 18)⟩]
def c22r4 : List AOper := [
 ⟨(some 19), none, .mv (.t 2)⟩,
 ⟨(some 20), none, .mv (.t 0)⟩,
 ⟨(some 21), none, .len (.t 20)⟩,
 ⟨(some 22), none, .call (.c (.fn 56 [] [])) [(.t 19), (.t 21)]⟩,
 ⟨(some 23), none, .not (.t 22)⟩]
def c22r5 : List AOper := [
 ⟨(some 6), none, .mv (.c (.b false))⟩,
 ⟨(some 7), none, .mv (.c (.i .i64 2))⟩]
def c22r6 : List AOper := [
 ⟨(some 9), none, .mv (.c (.i .u64 0))⟩]
def c22r7 : List AOper := [
 ⟨(some 24), none, .mv (.t 0)⟩,
 ⟨(some 25), none, .mv (.t 1)⟩,
 ⟨(some 26), none, .call (.c (.fn 41 [] [])) [(.t 24), (.t 25)]⟩,
 ⟨(some 10), none, .mv (.t 26)⟩]
def c22r8 : List AOper := [
 ⟨(some 27), none, .mv (.t 2)⟩,
 ⟨(some 28), none, .len (.t 27)⟩,
 ⟨(some 29), none, .mv (.c (.i .i64 0))⟩]
def c22r9 : List AOper := [
 ⟨(some 30), none, .bin false .lss (.t 29) (.t 28)⟩]
def c22r10 : List AOper := [
 ⟨(some 31), none, .ia 1 (.t 27) (.t 29)⟩,
 ⟨(some 32), none, .ld none (.t 31)⟩,
 ⟨(some 12), none, .mv (.t 32)⟩]
def c22r11 : List AOper := [
 ⟨(some 33), none, .mv (.t 9)⟩,
 ⟨(some 34), none, .mv (.t 10)⟩,
 ⟨(some 35), none, .mv (.t 12)⟩,
 ⟨(some 36), none, .ia 1 (.t 34) (.t 35)⟩,
 ⟨(some 37), none, .ld none (.t 36)⟩,
 ⟨(some 38), none, .bin false .or (.t 33) (.t 37)⟩,
 ⟨(some 9), none, .mv (.t 38)⟩]
def c22r12 : List AOper := [
 ⟨(some 39), none, .bin false .add (.t 29) (.c (.i .i64 1))⟩,
 ⟨(some 29), none, .mv (.t 39)⟩]
abbrev c22b13 : AC := (.seq (.reg c22r9) (.seq (.cond (.t 30) .skip (.exit 0)) (.seq (.blk 1 (.seq (.reg c22r10) (.reg c22r11))) (.reg c22r12))))
def c22r14 : List AOper := [
 ⟨(some 40), none, .mv (.t 9)⟩,
 ⟨(some 41), none, .call (.c (.fn 52 [] [])) [(.t 40)]⟩,
 ⟨(some 42), none, .mv (.t 1)⟩,
 ⟨(some 43), none, .len (.t 42)⟩,
 ⟨(some 44), none, .bin false .eql (.t 41) (.t 43)⟩,
 ⟨(some 6), none, .mv (.t 44)⟩,
 ⟨(some 7), none, .mv (.c (.i .i64 0))⟩]
abbrev c22 : AC := (.seq (.reg c22r0) (.seq (.seq (.reg c22r1) (.seq (.reg c22r2) (.cond (.t 17) (.seq (.reg c22r3) .ret) .skip))) (.seq (.seq (.reg c22r4) (.cond (.t 23) (.seq (.reg c22r5) .ret) .skip)) (.seq (.reg c22r6) (.seq (.reg c22r7) (.seq (.seq (.reg c22r8) (.blk 0 (.loop c22b13))) (.seq (.reg c22r14) .ret)))))))
def q22 : List ARes := [.t 6, .t 7]
theorem fn22 : fnOf Tryd.prog 22 = some (c22, q22, 45) := by kernel_rfl
def c23r0 : List AOper := [
 ⟨(some 6), none, .mv (.c (.b false))⟩,
 ⟨(some 7), none, .mv (.c (.i .i64 0))⟩]
def c23r1 : List AOper := [
 ⟨(some 14), none, .mv (.t 0)⟩,
 ⟨(some 15), none, .mv (.t 1)⟩,
 ⟨(some 16), none, .call (.c (.fn 40 [] [])) [(.t 14), (.t 15)]⟩,
 ⟨(some 8), none, .mv (.t 16)⟩]
def c23r2 : List AOper := [
 ⟨(some 17), none, .mv (.t 8)⟩,
 ⟨(some 18), none, .bin false .neq (.t 17) (.c (.i .i64 0))⟩]
def c23r3 : List AOper := [
 ⟨(some 19), none, .mv (.t 8)⟩,
 ⟨(some 6), none, .mv (.c (.b false))⟩,
 ⟨(some 7), none, .mv (.t 19)⟩]
def c23r4 : List AOper := [
 ⟨(some 20), none, .mv (.t 2)⟩,
 ⟨(some 21), none, .mv (.t 1)⟩,
 ⟨(some 22), none, .len (.t 21)⟩,
 ⟨(some 23), none, .call (.c (.fn 56 [] [])) [(.t 20), (.t 22)]⟩,
 ⟨(some 24), none, .not (.t 23)⟩]
def c23r5 : List AOper := [
 ⟨(some 6), none, .mv (.c (.b false))⟩,
 ⟨(some 7), none, .mv (.c (.i .i64 2))⟩]
def c23r6 : List AOper := [
 ⟨(some 9), none, .mv (.c (.i .u64 0))⟩]
def c23r7 : List AOper := [
 ⟨(some 25), none, .mv (.t 2)⟩,
 ⟨(some 26), none, .len (.t 25)⟩,
 ⟨(some 27), none, .mv (.c (.i .i64 0))⟩]
def c23r8 : List AOper := [
 ⟨(some 28), none, .bin false .lss (.t 27) (.t 26)⟩]
def c23r9 : List AOper := [
 ⟨(some 29), none, .ia 1 (.t 25) (.t 27)⟩,
 ⟨(some 30), none, .ld none (.t 29)⟩,
 ⟨(some 11), none, .mv (.t 30)⟩]
def c23r10 : List AOper := [
 ⟨(some 31), none, .mv (.t 9)⟩,
 ⟨(some 32), none, .mv (.t 11)⟩,
 ⟨(some 33), none, .bin false .shl (.c (.i .u64 1)) (.t 32)⟩,
 ⟨(some 34), none, .bin false .or (.t 31) (.t 33)⟩,
 ⟨(some 9), none, .mv (.t 34)⟩]
def c23r11 : List AOper := [
 ⟨(some 35), none, .bin false .add (.t 27) (.c (.i .i64 1))⟩,
 ⟨(some 27), none, .mv (.t 35)⟩]
abbrev c23b12 : AC := (.seq (.reg c23r8) (.seq (.cond (.t 28) .skip (.exit 0)) (.seq (.blk 1 (.seq (.reg c23r9) (.reg c23r10))) (.reg c23r11))))
def c23r13 : List AOper := [
 ⟨(some 36), none, .mv (.t 0)⟩,
 ⟨(some 37), none, .mv (.t 1)⟩,
 ⟨(some 38), none, .call (.c (.fn 41 [] [])) [(.t 36), (.t 37)]⟩,
 ⟨(some 39), none, .len (.t 38)⟩,
 ⟨(some 40), none, .mv (.c (.i .i64 0))⟩]
def c23r14 : List AOper := [
 ⟨(some 41), none, .bin false .lss (.t 40) (.t 39)⟩]
def c23r15 : List AOper := [
 ⟨(some 42), none, .ia 1 (.t 38) (.t 40)⟩,
 ⟨(some 43), none, .ld none (.t 42)⟩,
 ⟨(some 13), none, .mv (.t 43)⟩]
def c23r16 : List AOper := [
 ⟨(some 44), none, .mv (.t 13)⟩,
 ⟨(some 45), none, .mv (.t 9)⟩,
 ⟨(some 46), none, .bin false .and (.t 44) (.t 45)⟩,
 ⟨(some 47), none, .call (.c (.fn 52 [] [])) [(.t 46)]⟩,
 ⟨(some 48), none, .bin false .gtr (.t 47) (.c (.i .i64 1))⟩]
def c23r17 : List AOper := [
 ⟨(some 6), none, .mv (.c (.b false))⟩,
 ⟨(some 7), none, .mv (.c (.i .i64 0))⟩]
def c23r18 : List AOper := [
 ⟨(some 49), none, .bin false .add (.t 40) (.c (.i .i64 1))⟩,
 ⟨(some 40), none, .mv (.t 49)⟩]
abbrev c23b19 : AC := (.seq (.reg c23r14) (.seq (.cond (.t 41) .skip (.exit 2)) (.seq (.blk 3 (.seq (.reg c23r15) (.seq (.reg c23r16) (.cond (.t 48) (.seq (.reg c23r17) .ret) .skip)))) (.reg c23r18))))
def c23r20 : List AOper := [
 ⟨(some 6), none, .mv (.c (.b true))⟩,
 ⟨(some 7), none, .mv (.c (.i .i64 0))⟩]
abbrev c23 : AC := (.seq (.reg c23r0) (.seq (.seq (.reg c23r1) (.seq (.reg c23r2) (.cond (.t 18) (.seq (.reg c23r3) .ret) .skip))) (.seq (.seq (.reg c23r4) (.cond (.t 24) (.seq (.reg c23r5) .ret) .skip)) (.seq (.reg c23r6) (.seq (.seq (.reg c23r7) (.blk 0 (.loop c23b12))) (.seq (.seq (.reg c23r13) (.blk 2 (.loop c23b19))) (.seq (.reg c23r20) .ret)))))))
def q23 : List ARes := [.t 6, .t 7]
theorem fn23 : fnOf Tryd.prog 23 = some (c23, q23, 50) := by kernel_rfl
def c24r0 : List AOper := [
 ⟨(some 0), none, .mv (.c (.b false))⟩]
def c24r1 : List AOper := [
 ⟨(some 4), none, .bsl 1 [.i .i64 0, .i .i64 0, .i .i64 0, .i .i64 0, .i .i64 0] [(0, 1, (.c (.i .i64 1))), (1, 1, (.c (.i .i64 2))), (2, 1, (.c (.i .i64 4))), (3, 1, (.c (.i .i64 7))), (4, 1, (.c (.i .i64 8)))]⟩,
 ⟨(some 5), none, .call (.c (.fn 57 [] [])) [(.t 4), (.c (.i .i64 3))]⟩,
 ⟨(some 3), none, .mv (.t 5)⟩,
 ⟨(some 6), none, .ext (.t 3) 0⟩,
 ⟨(some 7), none, .ext (.t 3) 1⟩,
 ⟨(some 1), none, .mv (.t 6)⟩,
 ⟨(some 2), none, .mv (.t 7)⟩]
def c24r2 : List AOper := [
 ⟨(some 8), none, .mv (.t 2)⟩,
 ⟨(some 9), none, .bin false .eql (.t 8) (.c (.i .i64 0))⟩,
 ⟨(some 10), none, .mv (.t 9)⟩,
 ⟨(some 11), (some (10, true)), .mv (.t 1)⟩,
 ⟨(some 12), (some (10, true)), .len (.t 11)⟩,
 ⟨(some 13), (some (10, true)), .bin false .eql (.t 12) (.c (.i .i64 2))⟩,
 ⟨(some 14), none, .pick (.t 10) (.t 13) (.c (.b false))⟩,
 ⟨(some 15), none, .mv (.t 14)⟩,
 ⟨(some 16), (some (15, true)), .mv (.t 1)⟩,
 ⟨(some 17), (some (15, true)), .ia 1 (.t 16) (.c (.i .i64 1))⟩,
 ⟨(some 18), (some (15, true)), .ld none (.t 17)⟩,
 ⟨(some 19), (some (15, true)), .bin false .eql (.t 18) (.c (.i .i64 7))⟩,
 ⟨(some 20), none, .pick (.t 15) (.t 19) (.c (.b false))⟩,
 ⟨(some 0), none, .mv (.t 20)⟩]
abbrev c24 : AC := (.seq (.reg c24r0) (.seq (.reg c24r1) (.seq (.reg c24r2) .ret)))
def q24 : List ARes := [.t 0]
theorem fn24 : fnOf Tryd.prog 24 = some (c24, q24, 21) := by kernel_rfl
def c25r0 : List AOper := [
 ⟨(some 4), none, .mv (.c (.b false))⟩]
def c25r1 : List AOper := [
 ⟨(some 5), none, .mv (.c (.sl 0 0 0 0))⟩]
def c25r2 : List AOper := [
 ⟨(some 18), none, .mv (.t 0)⟩,
 ⟨(some 19), none, .len (.t 18)⟩,
 ⟨(some 20), none, .mv (.c (.i .i64 0))⟩]
def c25r3 : List AOper := [
 ⟨(some 21), none, .bin false .lss (.t 20) (.t 19)⟩]
def c25r4 : List AOper := [
 ⟨(some 22), none, .ia 6 (.t 18) (.t 20)⟩,
 ⟨(some 23), none, .ld (some 6) (.t 22)⟩,
 ⟨(some 7), none, .alloc [.i .i64 0, .i .i64 0, .i .i64 0, .i .i64 0, .i .i64 0, .i .i64 0]⟩,
 ⟨none, none, .sto (some 6) (.t 7) (.t 23)⟩]
def c25r5 : List AOper := [
 ⟨(some 24), none, .mv (.t 5)⟩,
 ⟨(some 25), none, .fa (.t 7) 1⟩,
 ⟨(some 26), none, .iap 5 1 (.t 25) (.c (.i .i64 0))⟩,
 ⟨(some 27), none, .ld none (.t 26)⟩,
 ⟨(some 28), none, .bsl 1 [.i .i64 0] [(0, 1, (.t 27))]⟩,
 ⟨(some 29), none, .app 1 8 (.t 24) (.t 28)⟩,
 ⟨(some 5), none, .mv (.t 29)⟩]
def c25r6 : List AOper := [
 ⟨(some 30), none, .bin false .add (.t 20) (.c (.i .i64 1))⟩,
 ⟨(some 20), none, .mv (.t 30)⟩]
abbrev c25b7 : AC := (.seq (.reg c25r3) (.seq (.cond (.t 21) .skip (.exit 0)) (.seq (.blk 1 (.seq (.reg c25r4) (.reg c25r5))) (.reg c25r6))))
def c25r8 : List AOper := [
 ⟨(some 32), none, .mv (.t 5)⟩,
 ⟨(some 33), none, .mv (.t 1)⟩,
 ⟨(some 34), none, .call (.c (.fn 49 [] [])) [(.t 32), (.t 33)]⟩,
 ⟨(some 31), none, .mv (.t 34)⟩,
 ⟨(some 35), none, .ext (.t 31) 0⟩,
 ⟨(some 36), none, .ext (.t 31) 1⟩,
 ⟨(some 8), none, .mv (.t 35)⟩,
 ⟨(some 9), none, .mv (.t 36)⟩]
def c25r9 : List AOper := [
 ⟨(some 38), none, .mv (.t 5)⟩,
 ⟨(some 39), none, .mv (.t 1)⟩,
 ⟨(some 40), none, .call (.c (.fn 57 [] [])) [(.t 38), (.t 39)]⟩,
 ⟨(some 37), none, .mv (.t 40)⟩,
 ⟨(some 41), none, .ext (.t 37) 0⟩,
 ⟨(some 42), none, .ext (.t 37) 1⟩,
 ⟨(some 10), none, .mv (.t 41)⟩,
 ⟨(some 11), none, .mv (.t 42)⟩]
def c25r10 : List AOper := [
 ⟨(some 43), none, .mv (.t 9)⟩,
 ⟨(some 44), none, .bin false .neq (.t 43) (.c (.i .i64 0))⟩,
 ⟨(some 45), none, .mv (.t 44)⟩,
 ⟨(some 46), (some (45, false)), .mv (.t 11)⟩,
 ⟨(some 47), (some (45, false)), .bin false .neq (.t 46) (.c (.i .i64 0))⟩,
 ⟨(some 48), none, .pick (.t 45) (.c (.b true)) (.t 47)⟩,
 ⟨(some 49), none, .mv (.t 48)⟩,
 ⟨(some 50), (some (49, false)), .mv (.t 8)⟩,
 ⟨(some 51), (some (49, false)), .len (.t 50)⟩,
 ⟨(some 52), (some (49, false)), .mv (.t 10)⟩,
 ⟨(some 53), (some (49, false)), .len (.t 52)⟩,
 ⟨(some 54), (some (49, false)), .bin false .neq (.t 51) (.t 53)⟩,
 ⟨(some 55), none, .pick (.t 49) (.c (.b true)) (.t 54)⟩]
def c25r11 : List AOper := [
 ⟨(some 4), none, .mv (.c (.b false))⟩]
def c25r12 : List AOper := [
 ⟨(some 56), none, .mv (.t 8)⟩,
 ⟨(some 57), none, .len (.t 56)⟩,
 ⟨(some 58), none, .bin false .gtr (.t 57) (.c (.i .i64 12))⟩]
def c25r13 : List AOper := [
 ⟨(some 4), none, .mv (.c (.b true))⟩]
def c25r14 : List AOper := [
 ⟨(some 59), none, .mv (.t 8)⟩,
 ⟨(some 60), none, .mv (.t 1)⟩,
 ⟨(some 61), none, .call (.c (.fn 58 [] [])) [(.t 59), (.t 60)]⟩,
 ⟨(some 12), none, .mv (.t 61)⟩]
def c25r15 : List AOper := [
 ⟨(some 62), none, .mv (.t 0)⟩,
 ⟨(some 63), none, .mv (.t 10)⟩,
 ⟨(some 64), none, .call (.c (.fn 59 [] [])) [(.t 62), (.t 63)]⟩,
 ⟨(some 13), none, .mv (.t 64)⟩]
def c25r16 : List AOper := [
 ⟨(some 66), none, .mv (.t 12)⟩,
 ⟨(some 67), none, .mv (.t 0)⟩,
 ⟨(some 68), none, .mv (.t 12)⟩,
 ⟨(some 69), none, .len (.t 68)⟩,
 ⟨(some 70), none, .call (.c (.fn 60 [] [])) [(.t 69)]⟩,
 ⟨(some 71), none, .call (.c (.fn 22 [] [])) [(.t 66), (.t 67), (.t 70)]⟩,
 ⟨(some 65), none, .mv (.t 71)⟩,
 ⟨(some 72), none, .ext (.t 65) 0⟩,
 ⟨(some 73), none, .ext (.t 65) 1⟩,
 ⟨(some 14), none, .mv (.t 72)⟩,
 ⟨(some 9), none, .mv (.t 73)⟩]
def c25r17 : List AOper := [
 ⟨(some 75), none, .mv (.t 12)⟩,
 ⟨(some 76), none, .mv (.t 0)⟩,
 ⟨(some 77), none, .mv (.t 13)⟩,
 ⟨(some 78), none, .call (.c (.fn 23 [] [])) [(.t 75), (.t 76), (.t 77)]⟩,
 ⟨(some 74), none, .mv (.t 78)⟩,
 ⟨(some 79), none, .ext (.t 74) 0⟩,
 ⟨(some 80), none, .ext (.t 74) 1⟩,
 ⟨(some 15), none, .mv (.t 79)⟩,
 ⟨(some 11), none, .mv (.t 80)⟩]
def c25r18 : List AOper := [
 ⟨(some 82), none, .mv (.t 12)⟩,
 ⟨(some 83), none, .mv (.t 0)⟩,
 ⟨(some 84), none, .call (.c (.fn 18 [] [])) [(.t 82), (.t 83)]⟩,
 ⟨(some 81), none, .mv (.t 84)⟩,
 ⟨(some 85), none, .ext (.t 81) 0⟩,
 ⟨(some 86), none, .ext (.t 81) 1⟩,
 ⟨(some 16), none, .mv (.t 85)⟩,
 ⟨(some 17), none, .mv (.t 86)⟩]
def c25r19 : List AOper := [
 ⟨(some 87), none, .mv (.t 9)⟩,
 ⟨(some 88), none, .bin false .eql (.t 87) (.c (.i .i64 0))⟩,
 ⟨(some 89), none, .mv (.t 88)⟩,
 ⟨(some 90), (some (89, true)), .mv (.t 11)⟩,
 ⟨(some 91), (some (89, true)), .bin false .eql (.t 90) (.c (.i .i64 0))⟩,
 ⟨(some 92), none, .pick (.t 89) (.t 91) (.c (.b false))⟩,
 ⟨(some 93), none, .mv (.t 92)⟩,
 ⟨(some 94), (some (93, true)), .mv (.t 17)⟩,
 ⟨(some 95), (some (93, true)), .bin false .eql (.t 94) (.c (.i .i64 0))⟩,
 ⟨(some 96), none, .pick (.t 93) (.t 95) (.c (.b false))⟩,
 ⟨(some 97), none, .mv (.t 96)⟩,
 ⟨(some 98), (some (97, true)), .mv (.t 14)⟩,
 ⟨(some 99), none, .pick (.t 97) (.t 98) (.c (.b false))⟩,
 ⟨(some 100), none, .mv (.t 99)⟩,
 ⟨(some 101), (some (100, true)), .mv (.t 15)⟩,
 ⟨(some 102), none, .pick (.t 100) (.t 101) (.c (.b false))⟩,
 ⟨(some 103), none, .mv (.t 102)⟩,
 ⟨(some 104), (some (103, true)), .mv (.t 13)⟩,
 ⟨(some 105), (some (103, true)), .len (.t 104)⟩,
 ⟨(some 106), (some (103, true)), .mv (.t 8)⟩,
 ⟨(some 107), (some (103, true)), .len (.t 106)⟩,
 ⟨(some 108), (some (103, true)), .bin false .eql (.t 105) (.t 107)⟩,
 ⟨(some 109), none, .pick (.t 103) (.t 108) (.c (.b false))⟩,
 ⟨(some 110), none, .mv (.t 109)⟩,
 ⟨(some 111), (some (110, true)), .mv (.t 16)⟩,
 ⟨(some 112), (some (110, true)), .len (.t 111)⟩,
 ⟨(some 113), (some (110, true)), .mv (.t 8)⟩,
 ⟨(some 114), (some (110, true)), .len (.t 113)⟩,
 ⟨(some 115), (some (110, true)), .bin false .eql (.t 112) (.t 114)⟩,
 ⟨(some 116), none, .pick (.t 110) (.t 115) (.c (.b false))⟩,
 ⟨(some 4), none, .mv (.t 116)⟩]
abbrev c25 : AC := (.seq (.reg c25r0) (.seq (.reg c25r1) (.seq (.seq (.reg c25r2) (.blk 0 (.loop c25b7))) (.seq (.reg c25r8) (.seq (.reg c25r9) (.seq (.seq (.reg c25r10) (.cond (.t 55) (.seq (.reg c25r11) .ret) .skip)) (.seq (.seq (.reg c25r12) (.cond (.t 58) (.seq (.reg c25r13) .ret) .skip)) (.seq (.reg c25r14) (.seq (.reg c25r15) (.seq (.reg c25r16) (.seq (.reg c25r17) (.seq (.reg c25r18) (.seq (.reg c25r19) .ret)))))))))))))
def q25 : List ARes := [.t 4]
theorem fn25 : fnOf Tryd.prog 25 = some (c25, q25, 117) := by kernel_rfl
def c26r0 : List AOper := [
 ⟨(some 4), none, .box (.t 1)⟩,
 ⟨(some 6), none, .mv (.c (.b false))⟩]
def c26r1 : List AOper := [
 ⟨(some 14), none, .mv (.t 0)⟩,
 ⟨(some 15), none, .mv (.t 2)⟩,
 ⟨(some 16), none, .ia 17 (.t 14) (.t 15)⟩,
 ⟨(some 17), none, .ld (some 17) (.t 16)⟩,
 ⟨(some 18), none, .ld (some 6) (.t 4)⟩,
 ⟨(some 19), none, .call (.c (.fn 61 [] [])) [(.t 17), (.t 18)]⟩,
 ⟨(some 13), none, .mv (.t 19)⟩,
 ⟨(some 20), none, .ext (.t 13) 0⟩,
 ⟨(some 21), none, .ext (.t 13) 1⟩,
 ⟨(some 7), none, .mv (.t 20)⟩,
 ⟨(some 8), none, .mv (.t 21)⟩]
def c26r2 : List AOper := [
 ⟨(some 22), none, .mv (.t 0)⟩,
 ⟨(some 23), none, .len (.t 22)⟩,
 ⟨(some 24), none, .mv (.c (.i .i64 0))⟩]
def c26r3 : List AOper := [
 ⟨(some 25), none, .bin false .lss (.t 24) (.t 23)⟩]
def c26r4 : List AOper := [
 ⟨(some 26), none, .ia 17 (.t 22) (.t 24)⟩,
 ⟨(some 27), none, .ld (some 17) (.t 26)⟩,
 ⟨(some 10), none, .alloc [.i .i64 0, .i .i64 0, .i .i64 0, .i .i64 0, .i .i64 0, .i .i64 0, .i .i64 0, .i .i64 0, .i .i64 0, .i .i64 0, .i .i64 0, .i .i64 0, .i .i64 0, .i .i64 0, .i .i64 0, .i .i64 0, .i .i64 0]⟩,
 ⟨none, none, .sto (some 17) (.t 10) (.t 27)⟩]
def c26r5 : List AOper := [
 ⟨(some 29), none, .ld (some 17) (.t 10)⟩,
 ⟨(some 30), none, .ld (some 6) (.t 4)⟩,
 ⟨(some 31), none, .call (.c (.fn 61 [] [])) [(.t 29), (.t 30)]⟩,
 ⟨(some 28), none, .mv (.t 31)⟩,
 ⟨(some 32), none, .ext (.t 28) 0⟩,
 ⟨(some 33), none, .ext (.t 28) 1⟩,
 ⟨(some 11), none, .mv (.t 32)⟩,
 ⟨(some 12), none, .mv (.t 33)⟩]
def c26r6 : List AOper := [
 ⟨(some 34), none, .mv (.t 12)⟩,
 ⟨(some 35), none, .mv (.t 34)⟩,
 ⟨(some 36), (some (35, true)), .mv (.t 11)⟩,
 ⟨(some 37), (some (35, true)), .mv (.t 7)⟩,
 ⟨(some 38), (some (35, true)), .bin false .lss (.t 36) (.t 37)⟩,
 ⟨(some 39), none, .pick (.t 35) (.t 38) (.c (.b false))⟩]
def c26r7 : List AOper := [
 ⟨(some 6), none, .mv (.c (.b false))⟩]
def c26r8 : List AOper := [
 ⟨(some 40), none, .bin false .add (.t 24) (.c (.i .i64 1))⟩,
 ⟨(some 24), none, .mv (.t 40)⟩]
abbrev c26b9 : AC := (.seq (.reg c26r3) (.seq (.cond (.t 25) .skip (.exit 0)) (.seq (.blk 1 (.seq (.reg c26r4) (.seq (.reg c26r5) (.seq (.reg c26r6) (.cond (.t 39) (.seq (.reg c26r7) .ret) .skip))))) (.reg c26r8))))
def c26r10 : List AOper := [
 ⟨(some 41), none, .mv (.t 8)⟩,
 ⟨(some 6), none, .mv (.t 41)⟩]
abbrev c26 : AC := (.seq (.reg c26r0) (.seq (.head 10 c26r1) (.seq (.seq (.reg c26r2) (.blk 0 (.loop c26b9))) (.seq (.reg c26r10) .ret))))
def q26 : List ARes := [.t 6]
theorem fn26 : fnOf Tryd.prog 26 = some (c26, q26, 42) := by kernel_rfl
def c27r0 : List AOper := [
 ⟨(some 7), none, .box (.t 2)⟩,
 ⟨(some 10), none, .mv (.c (.b false))⟩]
def c27r1 : List AOper := [
 ⟨(some 11), none, .mv (.c (.sl 0 0 0 0))⟩]
def c27r2 : List AOper := [
 ⟨(some 23), none, .mv (.t 0)⟩,
 ⟨(some 24), none, .len (.t 23)⟩,
 ⟨(some 25), none, .mv (.c (.i .i64 0))⟩]
def c27r3 : List AOper := [
 ⟨(some 26), none, .bin false .lss (.t 25) (.t 24)⟩]
def c27r4 : List AOper := [
 ⟨(some 27), none, .ia 17 (.t 23) (.t 25)⟩,
 ⟨(some 28), none, .ld (some 17) (.t 27)⟩,
 ⟨(some 13), none, .alloc [.i .i64 0, .i .i64 0, .i .i64 0, .i .i64 0, .i .i64 0, .i .i64 0, .i .i64 0, .i .i64 0, .i .i64 0, .i .i64 0, .i .i64 0, .i .i64 0, .i .i64 0, .i .i64 0, .i .i64 0, .i .i64 0, .i .i64 0]⟩,
 ⟨none, none, .sto (some 17) (.t 13) (.t 28)⟩]
def c27r5 : List AOper := [
 ⟨(some 30), none, .ld (some 17) (.t 13)⟩,
 ⟨(some 31), none, .ld (some 5) (.t 7)⟩,
 ⟨(some 32), none, .mv (.t 3)⟩,
 ⟨(some 33), none, .call (.c (.fn 62 [] [])) [(.t 30), (.t 31), (.t 32)]⟩,
 ⟨(some 29), none, .mv (.t 33)⟩,
 ⟨(some 34), none, .ext (.t 29) 0⟩,
 ⟨(some 35), none, .ext (.t 29) 1⟩,
 ⟨(some 14), none, .alloc [.i .i64 0, .i .i64 0, .i .i64 0, .i .i64 0, .i .i64 0, .i .i64 0, .i .i64 0, .i .i64 0, .i .i64 0, .i .i64 0, .i .i64 0, .i .i64 0, .i .i64 0, .i .i64 0, .i .i64 0, .i .i64 0, .i .i64 0]⟩,
 ⟨none, none, .sto (some 17) (.t 14) (.t 34)⟩,
 ⟨(some 15), none, .mv (.t 35)⟩]
def c27r6 : List AOper := [
 ⟨(some 36), none, .mv (.t 15)⟩,
 ⟨(some 37), none, .bin false .neq (.t 36) (.c (.i .i64 0))⟩]
def c27r7 : List AOper := [
 ⟨(some 10), none, .mv (.c (.b true))⟩]
def c27r8 : List AOper := [
 ⟨(some 38), none, .mv (.t 11)⟩,
 ⟨(some 39), none, .ld (some 17) (.t 14)⟩,
 ⟨(some 40), none, .bsl 17 [.i .i64 0, .i .i64 0, .i .i64 0, .i .i64 0, .i .i64 0, .i .i64 0, .i .i64 0, .i .i64 0, .i .i64 0, .i .i64 0, .i .i64 0, .i .i64 0, .i .i64 0, .i .i64 0, .i .i64 0, .i .i64 0, .i .i64 0] [(0, 17, (.t 39))]⟩,
 ⟨(some 41), none, .app 17 136 (.t 38) (.t 40)⟩,
 ⟨(some 11), none, .mv (.t 41)⟩]
def c27r9 : List AOper := [
 ⟨(some 42), none, .bin false .add (.t 25) (.c (.i .i64 1))⟩,
 ⟨(some 25), none, .mv (.t 42)⟩]
abbrev c27b10 : AC := (.seq (.reg c27r3) (.seq (.cond (.t 26) .skip (.exit 0)) (.seq (.blk 1 (.seq (.reg c27r4) (.seq (.reg c27r5) (.seq (.seq (.reg c27r6) (.cond (.t 37) (.seq (.reg c27r7) .ret) .skip)) (.reg c27r8))))) (.reg c27r9))))
def c27r11 : List AOper := [
 ⟨(some 16), none, .mv (.c (.sl 0 0 0 0))⟩]
def c27r12 : List AOper := [
 ⟨(some 43), none, .mv (.t 1)⟩,
 ⟨(some 44), none, .len (.t 43)⟩,
 ⟨(some 45), none, .mv (.c (.i .i64 0))⟩]
def c27r13 : List AOper := [
 ⟨(some 46), none, .bin false .lss (.t 45) (.t 44)⟩]
def c27r14 : List AOper := [
 ⟨(some 47), none, .ia 6 (.t 43) (.t 45)⟩,
 ⟨(some 48), none, .ld (some 6) (.t 47)⟩,
 ⟨(some 18), none, .alloc [.i .i64 0, .i .i64 0, .i .i64 0, .i .i64 0, .i .i64 0, .i .i64 0]⟩,
 ⟨none, none, .sto (some 6) (.t 18) (.t 48)⟩]
def c27r15 : List AOper := [
 ⟨(some 49), none, .mv (.c (.i .i64 0))⟩]
def c27r16 : List AOper := [
 ⟨(some 50), none, .bin false .lss (.t 49) (.c (.i .i64 5))⟩]
def c27r17 : List AOper := [
 ⟨(some 51), none, .mv (.t 49)⟩,
 ⟨(some 19), none, .mv (.t 51)⟩]
def c27r18 : List AOper := [
 ⟨(some 52), none, .mv (.t 19)⟩,
 ⟨(some 53), none, .fa (.t 18) 1⟩,
 ⟨(some 54), none, .iap 5 1 (.t 53) (.t 52)⟩,
 ⟨(some 55), none, .ld none (.t 54)⟩,
 ⟨(some 56), none, .mv (.t 3)⟩,
 ⟨(some 57), none, .mv (.t 19)⟩,
 ⟨(some 58), none, .iap 5 1 (.t 7) (.t 57)⟩,
 ⟨(some 59), none, .ld none (.t 58)⟩,
 ⟨(some 60), none, .bin false .mul (.t 56) (.t 59)⟩,
 ⟨(some 61), none, .bin false .add (.t 55) (.t 60)⟩,
 ⟨(some 62), none, .fa (.t 18) 1⟩,
 ⟨(some 63), none, .iap 5 1 (.t 62) (.t 52)⟩,
 ⟨none, none, .sto none (.t 63) (.t 61)⟩]
def c27r19 : List AOper := [
 ⟨(some 64), none, .bin false .add (.t 49) (.c (.i .i64 1))⟩,
 ⟨(some 49), none, .mv (.t 64)⟩]
abbrev c27b20 : AC := (.seq (.reg c27r16) (.seq (.cond (.t 50) .skip (.exit 4)) (.seq (.blk 5 (.seq (.reg c27r17) (.head 11 c27r18))) (.reg c27r19))))
def c27r21 : List AOper := [
 ⟨(some 65), none, .mv (.t 16)⟩,
 ⟨(some 66), none, .ld (some 6) (.t 18)⟩,
 ⟨(some 67), none, .bsl 6 [.i .i64 0, .i .i64 0, .i .i64 0, .i .i64 0, .i .i64 0, .i .i64 0] [(0, 6, (.t 66))]⟩,
 ⟨(some 68), none, .app 6 48 (.t 65) (.t 67)⟩,
 ⟨(some 16), none, .mv (.t 68)⟩]
def c27r22 : List AOper := [
 ⟨(some 69), none, .bin false .add (.t 45) (.c (.i .i64 1))⟩,
 ⟨(some 45), none, .mv (.t 69)⟩]
abbrev c27b23 : AC := (.seq (.reg c27r13) (.seq (.cond (.t 46) .skip (.exit 2)) (.seq (.blk 3 (.seq (.reg c27r14) (.seq (.seq (.reg c27r15) (.blk 4 (.loop c27b20))) (.reg c27r21)))) (.reg c27r22))))
def c27r24 : List AOper := [
 ⟨(some 70), none, .mv (.t 16)⟩,
 ⟨(some 71), none, .call (.c (.fn 11 [] [])) [(.t 70)]⟩,
 ⟨(some 72), none, .not (.t 71)⟩,
 ⟨(some 73), none, .mv (.t 72)⟩,
 ⟨(some 74), (some (73, false)), .mv (.t 0)⟩,
 ⟨(some 75), (some (73, false)), .len (.t 74)⟩,
 ⟨(some 76), (some (73, false)), .bin false .eql (.t 75) (.c (.i .i64 0))⟩,
 ⟨(some 77), none, .pick (.t 73) (.c (.b true)) (.t 76)⟩]
def c27r25 : List AOper := [
 ⟨(some 10), none, .mv (.c (.b true))⟩]
def c27r26 : List AOper := [
 ⟨(some 79), none, .mv (.t 11)⟩,
 ⟨(some 80), none, .mv (.t 16)⟩,
 ⟨(some 81), none, .call (.c (.fn 18 [] [])) [(.t 79), (.t 80)]⟩,
 ⟨(some 78), none, .mv (.t 81)⟩,
 ⟨(some 82), none, .ext (.t 78) 0⟩,
 ⟨(some 83), none, .ext (.t 78) 1⟩,
 ⟨(some 20), none, .mv (.t 82)⟩,
 ⟨(some 21), none, .mv (.t 83)⟩]
def c27r27 : List AOper := [
 ⟨(some 84), none, .mv (.t 21)⟩,
 ⟨(some 85), none, .bin false .neq (.t 84) (.c (.i .i64 0))⟩,
 ⟨(some 86), none, .mv (.t 85)⟩,
 ⟨(some 87), (some (86, false)), .mv (.t 20)⟩,
 ⟨(some 88), (some (86, false)), .len (.t 87)⟩,
 ⟨(some 89), (some (86, false)), .mv (.t 4)⟩,
 ⟨(some 90), (some (86, false)), .len (.t 89)⟩,
 ⟨(some 91), (some (86, false)), .bin false .neq (.t 88) (.t 90)⟩,
 ⟨(some 92), none, .pick (.t 86) (.c (.b true)) (.t 91)⟩]
def c27r28 : List AOper := [
 ⟨(some 10), none, .mv (.c (.b false))⟩]
def c27r29 : List AOper := [
 ⟨(some 93), none, .mv (.t 20)⟩,
 ⟨(some 94), none, .len (.t 93)⟩,
 ⟨(some 95), none, .mv (.c (.i .i64 0))⟩]
def c27r30 : List AOper := [
 ⟨(some 96), none, .bin false .lss (.t 95) (.t 94)⟩]
def c27r31 : List AOper := [
 ⟨(some 97), none, .mv (.t 95)⟩,
 ⟨(some 22), none, .mv (.t 97)⟩]
def c27r32 : List AOper := [
 ⟨(some 98), none, .mv (.t 20)⟩,
 ⟨(some 99), none, .mv (.t 22)⟩,
 ⟨(some 100), none, .ia 1 (.t 98) (.t 99)⟩,
 ⟨(some 101), none, .ld none (.t 100)⟩,
 ⟨(some 102), none, .mv (.t 4)⟩,
 ⟨(some 103), none, .mv (.t 22)⟩,
 ⟨(some 104), none, .ia 1 (.t 102) (.t 103)⟩,
 ⟨(some 105), none, .ld none (.t 104)⟩,
 ⟨(some 106), none, .bin false .neq (.t 101) (.t 105)⟩]
def c27r33 : List AOper := [
 ⟨(some 10), none, .mv (.c (.b false))⟩]
def c27r34 : List AOper := [
 ⟨(some 107), none, .bin false .add (.t 95) (.c (.i .i64 1))⟩,
 ⟨(some 95), none, .mv (.t 107)⟩]
abbrev c27b35 : AC := (.seq (.reg c27r30) (.seq (.cond (.t 96) .skip (.exit 6)) (.seq (.blk 7 (.seq (.reg c27r31) (.seq (.head 8 c27r32) (.cond (.t 106) (.seq (.reg c27r33) .ret) .skip)))) (.reg c27r34))))
def c27r36 : List AOper := [
 ⟨(some 10), none, .mv (.c (.b true))⟩]
abbrev c27 : AC := (.seq (.reg c27r0) (.seq (.reg c27r1) (.seq (.seq (.reg c27r2) (.blk 0 (.loop c27b10))) (.seq (.reg c27r11) (.seq (.seq (.reg c27r12) (.blk 2 (.loop c27b23))) (.seq (.seq (.reg c27r24) (.cond (.t 77) (.seq (.reg c27r25) .ret) .skip)) (.seq (.reg c27r26) (.seq (.seq (.reg c27r27) (.cond (.t 92) (.seq (.reg c27r28) .ret) .skip)) (.seq (.seq (.reg c27r29) (.blk 6 (.loop c27b35))) (.seq (.reg c27r36) .ret))))))))))
def q27 : List ARes := [.t 10]
theorem fn27 : fnOf Tryd.prog 27 = some (c27, q27, 108) := by kernel_rfl
def c28r0 : List AOper := [
 ⟨(some 4), none, .mv (.c (.b false))⟩]
def c28r1 : List AOper := [
 ⟨(some 5), none, .mv (.t 0)⟩,
 ⟨(some 6), none, .mv (.t 1)⟩,
 ⟨(some 7), none, .call (.c (.fn 63 [] [])) [(.t 5), (.t 6)]⟩,
 ⟨(some 8), none, .bin false .geq (.t 7) (.c (.i .i64 0))⟩,
 ⟨(some 4), none, .mv (.t 8)⟩]
abbrev c28 : AC := (.seq (.reg c28r0) (.seq (.reg c28r1) .ret))
def q28 : List ARes := [.t 4]
theorem fn28 : fnOf Tryd.prog 28 = some (c28, q28, 9) := by kernel_rfl
def c29r0 : List AOper := [
 ⟨(some 1), none, .box (.t 0)⟩,
 ⟨(some 2), none, .mv (.c (.b false))⟩]
def c29r1 : List AOper := [
 ⟨(some 3), none, .ld (some 17) (.t 1)⟩,
 ⟨(some 4), none, .call (.c (.fn 30 [] [])) [(.t 3)]⟩,
 ⟨(some 5), none, .not (.t 4)⟩,
 ⟨(some 2), none, .mv (.t 5)⟩]
abbrev c29 : AC := (.seq (.reg c29r0) (.seq (.reg c29r1) .ret))
def q29 : List ARes := [.t 2]
theorem fn29 : fnOf Tryd.prog 29 = some (c29, q29, 6) := by kernel_rfl
def c30r0 : List AOper := [
 ⟨(some 1), none, .box (.t 0)⟩,
 ⟨(some 2), none, .mv (.c (.b false))⟩]
def c30r1 : List AOper := [
 ⟨(some 5), none, .fa (.t 1) 0⟩,
 ⟨(some 6), none, .ld none (.t 5)⟩,
 ⟨(some 7), none, .call (.c (.fn 64 [] [])) [(.c (.i .i64 1)), (.t 6), (.c (.i .i64 1000000000))]⟩,
 ⟨(some 8), none, .mv (.t 7)⟩,
 ⟨(some 9), (some (8, true)), .fa (.t 1) 16⟩,
 ⟨(some 10), (some (8, true)), .ld none (.t 9)⟩,
 ⟨(some 11), (some (8, true)), .call (.c (.fn 64 [] [])) [(.c (.i .i64 0)), (.t 10), (.c (.i .i64 500))]⟩,
 ⟨(some 12), none, .pick (.t 8) (.t 11) (.c (.b false))⟩,
 ⟨(some 3), none, .mv (.t 12)⟩]
def c30r2 : List AOper := [
 ⟨(some 13), none, .mv (.c (.i .i64 0))⟩]
def c30r3 : List AOper := [
 ⟨(some 14), none, .bin false .lss (.t 13) (.c (.i .i64 5))⟩]
def c30r4 : List AOper := [
 ⟨(some 15), none, .mv (.t 13)⟩,
 ⟨(some 4), none, .mv (.t 15)⟩]
def c30r5 : List AOper := [
 ⟨(some 16), none, .mv (.t 3)⟩,
 ⟨(some 17), none, .mv (.t 16)⟩,
 ⟨(some 18), (some (17, true)), .mv (.t 4)⟩,
 ⟨(some 19), (some (17, true)), .fa (.t 1) 1⟩,
 ⟨(some 20), (some (17, true)), .iap 5 1 (.t 19) (.t 18)⟩,
 ⟨(some 21), (some (17, true)), .ld none (.t 20)⟩,
 ⟨(some 22), (some (17, true)), .bin false .leq (.c (.i .i64 0)) (.t 21)⟩,
 ⟨(some 23), none, .pick (.t 17) (.t 22) (.c (.b false))⟩,
 ⟨(some 24), none, .mv (.t 23)⟩,
 ⟨(some 25), (some (24, true)), .mv (.t 4)⟩,
 ⟨(some 26), (some (24, true)), .fa (.t 1) 1⟩,
 ⟨(some 27), (some (24, true)), .iap 5 1 (.t 26) (.t 25)⟩,
 ⟨(some 28), (some (24, true)), .ld none (.t 27)⟩,
 ⟨(some 29), (some (24, true)), .mv (.t 4)⟩,
 ⟨(some 30), (some (24, true)), .fa (.t 1) 6⟩,
 ⟨(some 31), (some (24, true)), .iap 5 1 (.t 30) (.t 29)⟩,
 ⟨(some 32), (some (24, true)), .ld none (.t 31)⟩,
 ⟨(some 33), (some (24, true)), .bin false .leq (.t 28) (.t 32)⟩,
 ⟨(some 34), none, .pick (.t 24) (.t 33) (.c (.b false))⟩,
 ⟨(some 35), none, .mv (.t 34)⟩,
 ⟨(some 36), (some (35, true)), .mv (.t 4)⟩,
 ⟨(some 37), (some (35, true)), .fa (.t 1) 6⟩,
 ⟨(some 38), (some (35, true)), .iap 5 1 (.t 37) (.t 36)⟩,
 ⟨(some 39), (some (35, true)), .ld none (.t 38)⟩,
 ⟨(some 40), (some (35, true)), .bin false .leq (.t 39) (.c (.i .i64 3000))⟩,
 ⟨(some 41), none, .pick (.t 35) (.t 40) (.c (.b false))⟩,
 ⟨(some 42), none, .mv (.t 41)⟩,
 ⟨(some 43), (some (42, true)), .mv (.t 4)⟩,
 ⟨(some 44), (some (42, true)), .fa (.t 1) 11⟩,
 ⟨(some 45), (some (42, true)), .iap 5 1 (.t 44) (.t 43)⟩,
 ⟨(some 46), (some (42, true)), .ld none (.t 45)⟩,
 ⟨(some 47), (some (42, true)), .call (.c (.fn 64 [] [])) [(.c (.i .i64 0)), (.t 46), (.c (.i .i64 100))]⟩,
 ⟨(some 48), none, .pick (.t 42) (.t 47) (.c (.b false))⟩,
 ⟨(some 3), none, .mv (.t 48)⟩]
def c30r6 : List AOper := [
 ⟨(some 49), none, .bin false .add (.t 13) (.c (.i .i64 1))⟩,
 ⟨(some 13), none, .mv (.t 49)⟩]
abbrev c30b7 : AC := (.seq (.reg c30r3) (.seq (.cond (.t 14) .skip (.exit 0)) (.seq (.blk 1 (.seq (.reg c30r4) (.head 29 c30r5))) (.reg c30r6))))
def c30r8 : List AOper := [
 ⟨(some 50), none, .mv (.t 3)⟩,
 ⟨(some 2), none, .mv (.t 50)⟩]
abbrev c30 : AC := (.seq (.reg c30r0) (.seq (.reg c30r1) (.seq (.seq (.reg c30r2) (.blk 0 (.loop c30b7))) (.seq (.reg c30r8) .ret))))
def q30 : List ARes := [.t 2]
theorem fn30 : fnOf Tryd.prog 30 = some (c30, q30, 51) := by kernel_rfl
def c31r0 : List AOper := [
 ⟨(some 4), none, .mv (.c (.b false))⟩]
def c31r1 : List AOper := [
 ⟨(some 8), none, .mkm⟩,
 ⟨(some 5), none, .mv (.t 8)⟩]
def c31r2 : List AOper := [
 ⟨(some 9), none, .mv (.t 0)⟩,
 ⟨(some 10), none, .len (.t 9)⟩,
 ⟨(some 11), none, .mv (.c (.i .i64 0))⟩]
def c31r3 : List AOper := [
 ⟨(some 12), none, .bin false .lss (.t 11) (.t 10)⟩]
def c31r4 : List AOper := [
 ⟨(some 13), none, .ia 17 (.t 9) (.t 11)⟩,
 ⟨(some 14), none, .ld (some 17) (.t 13)⟩,
 ⟨(some 7), none, .alloc [.i .i64 0, .i .i64 0, .i .i64 0, .i .i64 0, .i .i64 0, .i .i64 0, .i .i64 0, .i .i64 0, .i .i64 0, .i .i64 0, .i .i64 0, .i .i64 0, .i .i64 0, .i .i64 0, .i .i64 0, .i .i64 0, .i .i64 0]⟩,
 ⟨none, none, .sto (some 17) (.t 7) (.t 14)⟩]
def c31r5 : List AOper := [
 ⟨(some 15), none, .mv (.t 5)⟩,
 ⟨(some 16), none, .mv (.t 1)⟩,
 ⟨(some 17), none, .ld (some 17) (.t 7)⟩,
 ⟨(some 18), none, .call (.t 16) [(.t 17)]⟩,
 ⟨(some 19), none, .mlk none (.b false) false (.t 15) (.t 18)⟩]
def c31r6 : List AOper := [
 ⟨(some 4), none, .mv (.c (.b false))⟩]
def c31r7 : List AOper := [
 ⟨(some 20), none, .mv (.t 5)⟩,
 ⟨(some 21), none, .mv (.t 1)⟩,
 ⟨(some 22), none, .ld (some 17) (.t 7)⟩,
 ⟨(some 23), none, .call (.t 21) [(.t 22)]⟩,
 ⟨none, none, .mup none (.t 20) (.t 23) (.c (.b true))⟩]
def c31r8 : List AOper := [
 ⟨(some 24), none, .bin false .add (.t 11) (.c (.i .i64 1))⟩,
 ⟨(some 11), none, .mv (.t 24)⟩]
abbrev c31b9 : AC := (.seq (.reg c31r3) (.seq (.cond (.t 12) .skip (.exit 0)) (.seq (.blk 1 (.seq (.reg c31r4) (.seq (.seq (.reg c31r5) (.cond (.t 19) (.seq (.reg c31r6) .ret) .skip)) (.reg c31r7)))) (.reg c31r8))))
def c31r10 : List AOper := [
 ⟨(some 4), none, .mv (.c (.b true))⟩]
abbrev c31 : AC := (.seq (.reg c31r0) (.seq (.reg c31r1) (.seq (.seq (.reg c31r2) (.blk 0 (.loop c31b9))) (.seq (.reg c31r10) .ret))))
def q31 : List ARes := [.t 4]
theorem fn31 : fnOf Tryd.prog 31 = some (c31, q31, 25) := by kernel_rfl
def c32r0 : List AOper := [
 ⟨(some 1), none, .box (.t 0)⟩,
 ⟨(some 2), none, .mv (.c (.i .i64 0))⟩]
def c32r1 : List AOper := [
 ⟨(some 3), none, .fa (.t 1) 0⟩,
 ⟨(some 4), none, .ld none (.t 3)⟩,
 ⟨(some 2), none, .mv (.t 4)⟩]
abbrev c32 : AC := (.seq (.reg c32r0) (.seq (.reg c32r1) .ret))
def q32 : List ARes := [.t 2]
theorem fn32 : fnOf Tryd.prog 32 = some (c32, q32, 5) := by kernel_rfl
def c34r0 : List AOper := [
 ⟨(some 4), none, .mv (.c (.b false))⟩]
def c34r1 : List AOper := [
 ⟨(some 5), none, .mv (.t 0)⟩,
 ⟨(some 6), none, .mv (.t 1)⟩,
 ⟨(some 7), none, .call (.c (.fn 65 [] [])) [(.t 5), (.t 6)]⟩,
 ⟨(some 8), none, .bin false .geq (.t 7) (.c (.i .i64 0))⟩,
 ⟨(some 4), none, .mv (.t 8)⟩]
abbrev c34 : AC := (.seq (.reg c34r0) (.seq (.reg c34r1) .ret))
def q34 : List ARes := [.t 4]
theorem fn34 : fnOf Tryd.prog 34 = some (c34, q34, 9) := by kernel_rfl
def c35r0 : List AOper := [
 ⟨(some 1), none, .box (.t 0)⟩,
 ⟨(some 2), none, .mv (.c (.b false))⟩]
def c35r1 : List AOper := [
 ⟨(some 3), none, .ld (some 6) (.t 1)⟩,
 ⟨(some 4), none, .call (.c (.fn 36 [] [])) [(.t 3)]⟩,
 ⟨(some 5), none, .not (.t 4)⟩,
 ⟨(some 2), none, .mv (.t 5)⟩]
abbrev c35 : AC := (.seq (.reg c35r0) (.seq (.reg c35r1) .ret))
def q35 : List ARes := [.t 2]
theorem fn35 : fnOf Tryd.prog 35 = some (c35, q35, 6) := by kernel_rfl
def c36r0 : List AOper := [
 ⟨(some 1), none, .box (.t 0)⟩,
 ⟨(some 2), none, .mv (.c (.b false))⟩]
def c36r1 : List AOper := [
 ⟨(some 3), none, .fa (.t 1) 0⟩,
 ⟨(some 4), none, .ld none (.t 3)⟩,
 ⟨(some 5), none, .call (.c (.fn 64 [] [])) [(.c (.i .i64 1)), (.t 4), (.c (.i .i64 1000000000))]⟩,
 ⟨(some 6), none, .mv (.t 5)⟩,
 ⟨(some 7), (some (6, true)), .fa (.t 1) 1⟩,
 ⟨(some 8), (some (6, true)), .slp 5 1 (.t 7) none none⟩,
 ⟨(some 9), (some (6, true)), .call (.c (.fn 66 [] [])) [(.t 8), (.c (.fn 67 [] []))]⟩,
 ⟨(some 10), (some (6, true)), .not (.t 9)⟩,
 ⟨(some 11), none, .pick (.t 6) (.t 10) (.c (.b false))⟩,
 ⟨(some 2), none, .mv (.t 11)⟩]
abbrev c36 : AC := (.seq (.reg c36r0) (.seq (.reg c36r1) .ret))
def q36 : List ARes := [.t 2]
theorem fn36 : fnOf Tryd.prog 36 = some (c36, q36, 12) := by kernel_rfl
def c37r0 : List AOper := [
 ⟨(some 4), none, .mv (.c (.b false))⟩]
def c37r1 : List AOper := [
 ⟨(some 8), none, .mkm⟩,
 ⟨(some 5), none, .mv (.t 8)⟩]
def c37r2 : List AOper := [
 ⟨(some 9), none, .mv (.t 0)⟩,
 ⟨(some 10), none, .len (.t 9)⟩,
 ⟨(some 11), none, .mv (.c (.i .i64 0))⟩]
def c37r3 : List AOper := [
 ⟨(some 12), none, .bin false .lss (.t 11) (.t 10)⟩]
def c37r4 : List AOper := [
 ⟨(some 13), none, .ia 6 (.t 9) (.t 11)⟩,
 ⟨(some 14), none, .ld (some 6) (.t 13)⟩,
 ⟨(some 7), none, .alloc [.i .i64 0, .i .i64 0, .i .i64 0, .i .i64 0, .i .i64 0, .i .i64 0]⟩,
 ⟨none, none, .sto (some 6) (.t 7) (.t 14)⟩]
def c37r5 : List AOper := [
 ⟨(some 15), none, .mv (.t 5)⟩,
 ⟨(some 16), none, .mv (.t 1)⟩,
 ⟨(some 17), none, .ld (some 6) (.t 7)⟩,
 ⟨(some 18), none, .call (.t 16) [(.t 17)]⟩,
 ⟨(some 19), none, .mlk none (.b false) false (.t 15) (.t 18)⟩]
def c37r6 : List AOper := [
 ⟨(some 4), none, .mv (.c (.b false))⟩]
def c37r7 : List AOper := [
 ⟨(some 20), none, .mv (.t 5)⟩,
 ⟨(some 21), none, .mv (.t 1)⟩,
 ⟨(some 22), none, .ld (some 6) (.t 7)⟩,
 ⟨(some 23), none, .call (.t 21) [(.t 22)]⟩,
 ⟨none, none, .mup none (.t 20) (.t 23) (.c (.b true))⟩]
def c37r8 : List AOper := [
 ⟨(some 24), none, .bin false .add (.t 11) (.c (.i .i64 1))⟩,
 ⟨(some 11), none, .mv (.t 24)⟩]
abbrev c37b9 : AC := (.seq (.reg c37r3) (.seq (.cond (.t 12) .skip (.exit 0)) (.seq (.blk 1 (.seq (.reg c37r4) (.seq (.seq (.reg c37r5) (.cond (.t 19) (.seq (.reg c37r6) .ret) .skip)) (.reg c37r7)))) (.reg c37r8))))
def c37r10 : List AOper := [
 ⟨(some 4), none, .mv (.c (.b true))⟩]
abbrev c37 : AC := (.seq (.reg c37r0) (.seq (.reg c37r1) (.seq (.seq (.reg c37r2) (.blk 0 (.loop c37b9))) (.seq (.reg c37r10) .ret))))
def q37 : List ARes := [.t 4]
theorem fn37 : fnOf Tryd.prog 37 = some (c37, q37, 25) := by kernel_rfl
def c38r0 : List AOper := [
 ⟨(some 1), none, .box (.t 0)⟩,
 ⟨(some 2), none, .mv (.c (.i .i64 0))⟩]
def c38r1 : List AOper := [
 ⟨(some 3), none, .fa (.t 1) 0⟩,
 ⟨(some 4), none, .ld none (.t 3)⟩,
 ⟨(some 2), none, .mv (.t 4)⟩]
abbrev c38 : AC := (.seq (.reg c38r0) (.seq (.reg c38r1) .ret))
def q38 : List ARes := [.t 2]
theorem fn38 : fnOf Tryd.prog 38 = some (c38, q38, 5) := by kernel_rfl
def c39r0 : List AOper := [
 ⟨(some 1), none, .box (.t 0)⟩,
 ⟨(some 2), none, .mv (.c (.b false))⟩]
def c39r1 : List AOper := [
 ⟨(some 5), none, .fa (.t 1) 1⟩,
 ⟨(some 6), none, .ld (some 5) (.t 5)⟩,
 ⟨(some 7), none, .mv (.c (.i .i64 0))⟩]
def c39r2 : List AOper := [
 ⟨(some 8), none, .bin false .lss (.t 7) (.c (.i .i64 5))⟩]
def c39r3 : List AOper := [
 ⟨(some 9), none, .iv 5 1 false (.t 6) (.t 7)⟩,
 ⟨(some 4), none, .mv (.t 9)⟩]
def c39r4 : List AOper := [
 ⟨(some 10), none, .mv (.t 4)⟩,
 ⟨(some 11), none, .bin false .lss (.t 10) (.c (.i .i64 0))⟩,
 ⟨(some 12), none, .mv (.t 11)⟩,
 ⟨(some 13), (some (12, false)), .mv (.t 4)⟩,
 ⟨(some 14), (some (12, false)), .bin false .gtr (.t 13) (.c (.i .i64 3000))⟩,
 ⟨(some 15), none, .pick (.t 12) (.c (.b true)) (.t 14)⟩]
def c39r5 : List AOper := [
 ⟨(some 2), none, .mv (.c (.b false))⟩]
def c39r6 : List AOper := [
 ⟨(some 16), none, .bin false .add (.t 7) (.c (.i .i64 1))⟩,
 ⟨(some 7), none, .mv (.t 16)⟩]
abbrev c39b7 : AC := (.seq (.reg c39r2) (.seq (.cond (.t 8) .skip (.exit 0)) (.seq (.blk 1 (.seq (.reg c39r3) (.seq (.reg c39r4) (.cond (.t 15) (.seq (.reg c39r5) .ret) .skip)))) (.reg c39r6))))
def c39r8 : List AOper := [
 ⟨(some 17), none, .fa (.t 1) 0⟩,
 ⟨(some 18), none, .ld none (.t 17)⟩,
 ⟨(some 19), none, .bin false .geq (.t 18) (.c (.i .i64 1))⟩,
 ⟨(some 20), none, .mv (.t 19)⟩,
 ⟨(some 21), (some (20, true)), .fa (.t 1) 0⟩,
 ⟨(some 22), (some (20, true)), .ld none (.t 21)⟩,
 ⟨(some 23), (some (20, true)), .bin false .leq (.t 22) (.c (.i .i64 1000000000))⟩,
 ⟨(some 24), none, .pick (.t 20) (.t 23) (.c (.b false))⟩,
 ⟨(some 2), none, .mv (.t 24)⟩]
abbrev c39 : AC := (.seq (.reg c39r0) (.seq (.seq (.reg c39r1) (.blk 0 (.loop c39b7))) (.seq (.reg c39r8) .ret)))
def q39 : List ARes := [.t 2]
theorem fn39 : fnOf Tryd.prog 39 = some (c39, q39, 25) := by kernel_rfl
def c40r0 : List AOper := [
 ⟨(some 4), none, .mv (.c (.i .i64 0))⟩]
def c40r1 : List AOper := [
 ⟨(some 6), none, .mv (.t 0)⟩,
 ⟨(some 7), none, .call (.c (.fn 8 [] [])) [(.t 6)]⟩,
 ⟨(some 8), none, .not (.t 7)⟩,
 ⟨(some 5), none, .mv (.t 8)⟩]
def c40r2 : List AOper := [
 ⟨(some 4), none, .mv (.c (.i .i64 31))⟩]
def c40r3 : List AOper := [
 ⟨(some 10), none, .mv (.t 1)⟩,
 ⟨(some 11), none, .call (.c (.fn 10 [] [])) [(.t 10)]⟩,
 ⟨(some 12), none, .not (.t 11)⟩,
 ⟨(some 9), none, .mv (.t 12)⟩]
def c40r4 : List AOper := [
 ⟨(some 4), none, .mv (.c (.i .i64 30))⟩]
def c40r5 : List AOper := [
 ⟨(some 4), none, .mv (.c (.i .i64 0))⟩]
abbrev c40 : AC := (.seq (.reg c40r0) (.seq (.blk 0 (.seq (.reg c40r1) (.cond (.t 5) (.seq (.reg c40r2) .ret) (.seq (.reg c40r3) (.cond (.t 9) (.seq (.reg c40r4) .ret) .skip))))) (.seq (.reg c40r5) .ret)))
def q40 : List ARes := [.t 4]
theorem fn40 : fnOf Tryd.prog 40 = some (c40, q40, 13) := by kernel_rfl
def c41r0 : List AOper := [
 ⟨(some 4), none, .mv (.c (.sl 0 0 0 0))⟩]
def c41r1 : List AOper := [
 ⟨(some 10), none, .mv (.t 0)⟩,
 ⟨(some 11), none, .len (.t 10)⟩,
 ⟨(some 12), none, .mks 1 8 [.i .u64 0] (.t 11) (.t 11)⟩,
 ⟨(some 5), none, .mv (.t 12)⟩]
def c41r2 : List AOper := [
 ⟨(some 13), none, .mv (.t 0)⟩,
 ⟨(some 14), none, .len (.t 13)⟩,
 ⟨(some 15), none, .mv (.c (.i .i64 0))⟩]
def c41r3 : List AOper := [
 ⟨(some 16), none, .bin false .lss (.t 15) (.t 14)⟩]
def c41r4 : List AOper := [
 ⟨(some 17), none, .mv (.t 15)⟩,
 ⟨(some 18), none, .ia 17 (.t 13) (.t 15)⟩,
 ⟨(some 19), none, .ld (some 17) (.t 18)⟩,
 ⟨(some 7), none, .alloc [.i .i64 0, .i .i64 0, .i .i64 0, .i .i64 0, .i .i64 0, .i .i64 0, .i .i64 0, .i .i64 0, .i .i64 0, .i .i64 0, .i .i64 0, .i .i64 0, .i .i64 0, .i .i64 0, .i .i64 0, .i .i64 0, .i .i64 0]⟩,
 ⟨(some 6), none, .mv (.t 17)⟩,
 ⟨none, none, .sto (some 17) (.t 7) (.t 19)⟩]
def c41r5 : List AOper := [
 ⟨(some 20), none, .mv (.t 1)⟩,
 ⟨(some 21), none, .len (.t 20)⟩,
 ⟨(some 22), none, .mv (.c (.i .i64 0))⟩]
def c41r6 : List AOper := [
 ⟨(some 23), none, .bin false .lss (.t 22) (.t 21)⟩]
def c41r7 : List AOper := [
 ⟨(some 24), none, .mv (.t 22)⟩,
 ⟨(some 25), none, .ia 6 (.t 20) (.t 22)⟩,
 ⟨(some 26), none, .ld (some 6) (.t 25)⟩,
 ⟨(some 9), none, .alloc [.i .i64 0, .i .i64 0, .i .i64 0, .i .i64 0, .i .i64 0, .i .i64 0]⟩,
 ⟨(some 8), none, .mv (.t 24)⟩,
 ⟨none, none, .sto (some 6) (.t 9) (.t 26)⟩]
def c41r8 : List AOper := [
 ⟨(some 27), none, .ld (some 17) (.t 7)⟩,
 ⟨(some 28), none, .ld (some 6) (.t 9)⟩,
 ⟨(some 29), none, .call (.c (.fn 47 [] [])) [(.t 27), (.t 28)]⟩,
 ⟨(some 30), none, .len (.t 29)⟩,
 ⟨(some 31), none, .bin false .eql (.t 30) (.c (.i .i64 0))⟩]
def c41r9 : List AOper := [
 ⟨(some 32), none, .mv (.t 5)⟩,
 ⟨(some 33), none, .mv (.t 6)⟩,
 ⟨(some 34), none, .ia 1 (.t 32) (.t 33)⟩,
 ⟨(some 35), none, .ld none (.t 34)⟩,
 ⟨(some 36), none, .mv (.t 8)⟩,
 ⟨(some 37), none, .bin false .shl (.c (.i .u64 1)) (.t 36)⟩,
 ⟨(some 38), none, .bin false .or (.t 35) (.t 37)⟩,
 ⟨(some 39), none, .ia 1 (.t 32) (.t 33)⟩,
 ⟨none, none, .sto none (.t 39) (.t 38)⟩]
def c41r10 : List AOper := [
 ⟨(some 40), none, .bin false .add (.t 22) (.c (.i .i64 1))⟩,
 ⟨(some 22), none, .mv (.t 40)⟩]
abbrev c41b11 : AC := (.seq (.reg c41r6) (.seq (.cond (.t 23) .skip (.exit 2)) (.seq (.blk 3 (.seq (.reg c41r7) (.seq (.reg c41r8) (.cond (.t 31) (.head 6 c41r9) .skip)))) (.reg c41r10))))
def c41r12 : List AOper := [
 ⟨(some 41), none, .bin false .add (.t 15) (.c (.i .i64 1))⟩,
 ⟨(some 15), none, .mv (.t 41)⟩]
abbrev c41b13 : AC := (.seq (.reg c41r3) (.seq (.cond (.t 16) .skip (.exit 0)) (.seq (.blk 1 (.seq (.reg c41r4) (.seq (.reg c41r5) (.blk 2 (.loop c41b11))))) (.reg c41r12))))
def c41r14 : List AOper := [
 ⟨(some 42), none, .mv (.t 5)⟩,
 ⟨(some 4), none, .mv (.t 42)⟩]
abbrev c41 : AC := (.seq (.reg c41r0) (.seq (.reg c41r1) (.seq (.seq (.reg c41r2) (.blk 0 (.loop c41b13))) (.seq (.reg c41r14) .ret))))
def q41 : List ARes := [.t 4]
theorem fn41 : fnOf Tryd.prog 41 = some (c41, q41, 43) := by kernel_rfl
def c42r0 : List AOper := [
 ⟨(some 2), none, .mv (.c (.sl 0 0 0 0))⟩]
def c42r1 : List AOper := [
 ⟨(some 3), none, .mv (.t 0)⟩,
 ⟨(some 4), none, .call (.c (.fn 68 [] [])) [(.c (.sl 0 0 0 0)), (.t 3)]⟩,
 ⟨(some 2), none, .mv (.t 4)⟩]
abbrev c42 : AC := (.seq (.reg c42r0) (.seq (.reg c42r1) .ret))
def q42 : List ARes := [.t 2]
theorem fn42 : fnOf Tryd.prog 42 = some (c42, q42, 5) := by kernel_rfl
def c43r0 : List AOper := [
 ⟨(some 1), none, .box (.t 0)⟩,
 ⟨(some 2), none, .mv (.c (.nilf))⟩]
def c43r1 : List AOper := [
 ⟨(some 3), none, .mkf 69 [] [(.t 1)]⟩,
 ⟨(some 2), none, .mv (.t 3)⟩]
abbrev c43 : AC := (.seq (.reg c43r0) (.seq (.reg c43r1) .ret))
def q43 : List ARes := [.t 2]
theorem fn43 : fnOf Tryd.prog 43 = some (c43, q43, 4) := by kernel_rfl
def c46r0 : List AOper := [
 ⟨(some 2), none, .box (.t 0)⟩,
 ⟨(some 3), none, .box (.t 1)⟩,
 ⟨(some 4), none, .alloc [.i .i64 0, .i .i64 0, .i .i64 0, .i .i64 0, .i .i64 0]⟩,
 ⟨(some 5), none, .mv (.c (.i .i64 0))⟩]
def c46r1 : List AOper := [
 ⟨(some 6), none, .alloc [.i .i64 0, .i .i64 0, .i .i64 0, .i .i64 0, .i .i64 0]⟩]
def c46r2 : List AOper := [
 ⟨(some 7), none, .mv (.c (.i .i64 0))⟩]
def c46r3 : List AOper := [
 ⟨(some 10), none, .fa (.t 3) 1⟩,
 ⟨(some 11), none, .ld (some 5) (.t 10)⟩,
 ⟨(some 12), none, .mv (.c (.i .i64 0))⟩]
def c46r4 : List AOper := [
 ⟨(some 13), none, .bin false .lss (.t 12) (.c (.i .i64 5))⟩]
def c46r5 : List AOper := [
 ⟨(some 14), none, .mv (.t 12)⟩,
 ⟨(some 15), none, .iv 5 1 false (.t 11) (.t 12)⟩,
 ⟨(some 8), none, .mv (.t 14)⟩,
 ⟨(some 9), none, .mv (.t 15)⟩]
def c46r6 : List AOper := [
 ⟨(some 16), none, .mv (.t 8)⟩,
 ⟨(some 17), none, .mv (.t 8)⟩,
 ⟨(some 18), none, .fa (.t 2) 1⟩,
 ⟨(some 19), none, .iap 5 1 (.t 18) (.t 17)⟩,
 ⟨(some 20), none, .ld none (.t 19)⟩,
 ⟨(some 21), none, .mv (.t 9)⟩,
 ⟨(some 22), none, .bin false .sub (.t 20) (.t 21)⟩,
 ⟨(some 23), none, .mv (.t 9)⟩,
 ⟨(some 24), none, .mv (.t 8)⟩,
 ⟨(some 25), none, .fa (.t 2) 6⟩,
 ⟨(some 26), none, .iap 5 1 (.t 25) (.t 24)⟩,
 ⟨(some 27), none, .ld none (.t 26)⟩,
 ⟨(some 28), none, .bin false .sub (.t 23) (.t 27)⟩,
 ⟨(some 29), none, .mm true (.t 22) [(.t 28), (.c (.i .i64 0))]⟩,
 ⟨(some 30), none, .iap 5 1 (.t 6) (.t 16)⟩,
 ⟨none, none, .sto none (.t 30) (.t 29)⟩]
def c46r7 : List AOper := [
 ⟨(some 31), none, .mv (.t 7)⟩,
 ⟨(some 32), none, .mv (.t 8)⟩,
 ⟨(some 33), none, .iap 5 1 (.t 6) (.t 32)⟩,
 ⟨(some 34), none, .ld none (.t 33)⟩,
 ⟨(some 35), none, .bin false .add (.t 31) (.t 34)⟩,
 ⟨(some 7), none, .mv (.t 35)⟩]
def c46r8 : List AOper := [
 ⟨(some 36), none, .bin false .add (.t 12) (.c (.i .i64 1))⟩,
 ⟨(some 12), none, .mv (.t 36)⟩]
abbrev c46b9 : AC := (.seq (.reg c46r4) (.seq (.cond (.t 13) .skip (.exit 0)) (.seq (.blk 1 (.seq (.reg c46r5) (.seq (.head 14 c46r6) (.reg c46r7)))) (.reg c46r8))))
def c46r10 : List AOper := [
 ⟨(some 37), none, .ld (some 5) (.t 6)⟩,
 ⟨(some 38), none, .mv (.t 7)⟩,
 ⟨none, none, .sto (some 5) (.t 4) (.t 37)⟩,
 ⟨(some 5), none, .mv (.t 38)⟩]
abbrev c46 : AC := (.seq (.reg c46r0) (.seq (.reg c46r1) (.seq (.reg c46r2) (.seq (.seq (.reg c46r3) (.blk 0 (.loop c46b9))) (.seq (.reg c46r10) .ret)))))
def q46 : List ARes := [.c 4 (some 5), .t 5]
theorem fn46 : fnOf Tryd.prog 46 = some (c46, q46, 39) := by kernel_rfl
def c47r0 : List AOper := [
 ⟨(some 2), none, .box (.t 0)⟩,
 ⟨(some 3), none, .box (.t 1)⟩,
 ⟨(some 4), none, .mv (.c (.sl 0 0 0 0))⟩]
def c47r1 : List AOper := [
 ⟨(some 5), none, .mv (.c (.sl 0 0 0 0))⟩]
def c47r2 : List AOper := [
 ⟨(some 11), none, .ld (some 17) (.t 2)⟩,
 ⟨(some 12), none, .ld (some 6) (.t 3)⟩,
 ⟨(some 13), none, .call (.c (.fn 46 [] [])) [(.t 11), (.t 12)]⟩,
 ⟨(some 10), none, .mv (.t 13)⟩,
 ⟨(some 14), none, .ext (.t 10) 0⟩,
 ⟨(some 15), none, .ext (.t 10) 1⟩,
 ⟨(some 6), none, .alloc [.i .i64 0, .i .i64 0, .i .i64 0, .i .i64 0, .i .i64 0]⟩,
 ⟨none, none, .sto (some 5) (.t 6) (.t 14)⟩,
 ⟨(some 7), none, .mv (.t 15)⟩]
def c47r3 : List AOper := [
 ⟨(some 16), none, .ld (some 5) (.t 6)⟩,
 ⟨(some 17), none, .mv (.c (.i .i64 0))⟩]
def c47r4 : List AOper := [
 ⟨(some 18), none, .bin false .lss (.t 17) (.c (.i .i64 5))⟩]
def c47r5 : List AOper := [
 ⟨(some 19), none, .mv (.t 17)⟩,
 ⟨(some 20), none, .iv 5 1 false (.t 16) (.t 17)⟩,
 ⟨(some 8), none, .mv (.t 19)⟩,
 ⟨(some 9), none, .mv (.t 20)⟩]
def c47r6 : List AOper := [
 ⟨(some 21), none, .mv (.t 9)⟩,
 ⟨(some 22), none, .mv (.t 8)⟩,
 ⟨(some 23), none, .fa (.t 2) 11⟩,
 ⟨(some 24), none, .iap 5 1 (.t 23) (.t 22)⟩,
 ⟨(some 25), none, .ld none (.t 24)⟩,
 ⟨(some 26), none, .bin false .gtr (.t 21) (.t 25)⟩]
def c47r7 : List AOper := [
 ⟨(some 27), none, .mv (.t 5)⟩,
 ⟨(some 28), none, .mv (.t 8)⟩,
 ⟨(some 29), none, .bsl 1 [.i .i64 0] [(0, 1, (.t 28))]⟩,
 ⟨(some 30), none, .app 1 8 (.t 27) (.t 29)⟩,
 ⟨(some 5), none, .mv (.t 30)⟩]
def c47r8 : List AOper := [
 ⟨(some 31), none, .bin false .add (.t 17) (.c (.i .i64 1))⟩,
 ⟨(some 17), none, .mv (.t 31)⟩]
abbrev c47b9 : AC := (.seq (.reg c47r4) (.seq (.cond (.t 18) .skip (.exit 0)) (.seq (.blk 1 (.seq (.reg c47r5) (.seq (.reg c47r6) (.cond (.t 26) (.reg c47r7) .skip)))) (.reg c47r8))))
def c47r10 : List AOper := [
 ⟨(some 32), none, .mv (.t 7)⟩,
 ⟨(some 33), none, .fa (.t 2) 16⟩,
 ⟨(some 34), none, .ld none (.t 33)⟩,
 ⟨(some 35), none, .bin false .gtr (.t 32) (.t 34)⟩]
def c47r11 : List AOper := [
 ⟨(some 36), none, .mv (.t 5)⟩,
 ⟨(some 37), none, .bsl 1 [.i .i64 0] [(0, 1, (.c (.i .i64 5)))]⟩,
 ⟨(some 38), none, .app 1 8 (.t 36) (.t 37)⟩,
 ⟨(some 5), none, .mv (.t 38)⟩]
def c47r12 : List AOper := [
 ⟨(some 39), none, .mv (.t 5)⟩,
 ⟨(some 4), none, .mv (.t 39)⟩]
abbrev c47 : AC := (.seq (.reg c47r0) (.seq (.reg c47r1) (.seq (.reg c47r2) (.seq (.seq (.reg c47r3) (.blk 0 (.loop c47b9))) (.seq (.seq (.reg c47r10) (.cond (.t 35) (.reg c47r11) .skip)) (.seq (.reg c47r12) .ret))))))
def q47 : List ARes := [.t 4]
theorem fn47 : fnOf Tryd.prog 47 = some (c47, q47, 40) := by kernel_rfl
def c49r0 : List AOper := [
 ⟨(some 3), none, .box (.t 1)⟩,
 ⟨(some 4), none, .mv (.c (.sl 0 0 0 0))⟩,
 ⟨(some 5), none, .mv (.c (.i .i64 0))⟩]
def c49r1 : List AOper := [
 ⟨(some 12), none, .mv (.t 0)⟩,
 ⟨(some 13), none, .ld none (.t 3)⟩,
 ⟨(some 14), none, .call (.c (.fn 72 [] [])) [(.t 12), (.t 13)]⟩,
 ⟨(some 11), none, .mv (.t 14)⟩,
 ⟨(some 15), none, .ext (.t 11) 0⟩,
 ⟨(some 16), none, .ext (.t 11) 1⟩,
 ⟨(some 6), none, .mv (.t 15)⟩,
 ⟨(some 7), none, .mv (.t 16)⟩]
def c49r2 : List AOper := [
 ⟨(some 17), none, .mv (.t 7)⟩,
 ⟨(some 18), none, .bin false .neq (.t 17) (.c (.i .i64 0))⟩]
def c49r3 : List AOper := [
 ⟨(some 19), none, .mv (.t 7)⟩,
 ⟨(some 4), none, .mv (.c (.sl 0 0 0 0))⟩,
 ⟨(some 5), none, .mv (.t 19)⟩]
def c49r4 : List AOper := [
 ⟨(some 8), none, .alloc [.sl 0 0 0 0]⟩]
def c49r5 : List AOper := [
 ⟨(some 20), none, .mv (.t 6)⟩,
 ⟨(some 21), none, .call (.c (.fn 73 [] [])) [(.t 20)]⟩]
def c49r6 : List AOper := [
 ⟨(some 10), none, .mv (.t 23)⟩]
def c49r7 : List AOper := [
 ⟨(some 24), none, .ld none (.t 8)⟩,
 ⟨(some 25), none, .len (.t 24)⟩,
 ⟨(some 26), none, .bin false .eql (.t 25) (.c (.i .i64 0))⟩,
 ⟨(some 27), none, .mv (.t 26)⟩,
 ⟨(some 28), (some (27, false)), .mv (.t 10)⟩,
 ⟨(some 29), (some (27, false)), .ld none (.t 8)⟩,
 ⟨(some 30), (some (27, false)), .ld none (.t 8)⟩,
 ⟨(some 31), (some (27, false)), .len (.t 30)⟩,
 ⟨(some 32), (some (27, false)), .bin false .sub (.t 31) (.c (.i .i64 1))⟩,
 ⟨(some 33), (some (27, false)), .ia 1 (.t 29) (.t 32)⟩,
 ⟨(some 34), (some (27, false)), .ld none (.t 33)⟩,
 ⟨(some 35), (some (27, false)), .bin false .lss (.t 28) (.t 34)⟩,
 ⟨(some 36), none, .pick (.t 27) (.c (.b true)) (.t 35)⟩]
def c49r8 : List AOper := [
 ⟨(some 37), none, .ld none (.t 8)⟩,
 ⟨(some 38), none, .mv (.t 10)⟩,
 ⟨(some 39), none, .ld none (.t 3)⟩,
 ⟨(some 40), none, .bin false .sub (.t 38) (.t 39)⟩,
 ⟨(some 41), none, .bsl 1 [.i .i64 0] [(0, 1, (.t 40))]⟩,
 ⟨(some 42), none, .app 1 8 (.t 37) (.t 41)⟩,
 ⟨none, none, .sto none (.t 8) (.t 42)⟩]
abbrev c49a9 : AC := (.reg c49r6)
abbrev c49y9 : AC := (.blk 1 (.seq (.reg c49r7) (.cond (.t 36) (.reg c49r8) .skip)))
def c49r10 : List AOper := [
 ⟨(some 43), none, .ld none (.t 8)⟩,
 ⟨(some 44), none, .call (.c (.fn 74 [] [])) [(.t 43)]⟩]
def c49r11 : List AOper := [
 ⟨(some 45), none, .ld none (.t 8)⟩,
 ⟨(some 4), none, .mv (.t 45)⟩,
 ⟨(some 5), none, .mv (.c (.i .i64 0))⟩]
abbrev c49 : AC := (.seq (.reg c49r0) (.seq (.reg c49r1) (.seq (.seq (.reg c49r2) (.cond (.t 18) (.seq (.reg c49r3) .ret) .skip)) (.seq (.reg c49r4) (.seq (.seq (.reg c49r5) (.blk 0 (.rf (.t 21) [22, 23] c49a9 c49y9))) (.seq (.reg c49r10) (.seq (.reg c49r11) .ret)))))))
def q49 : List ARes := [.t 4, .t 5]
theorem fn49 : fnOf Tryd.prog 49 = some (c49, q49, 46) := by kernel_rfl
def c50r0 : List AOper := [
 ⟨(some 4), none, .mv (.c (.i .i64 0))⟩]
def c50r1 : List AOper := [
 ⟨(some 9), none, .mv (.t 0)⟩,
 ⟨(some 10), none, .len (.t 9)⟩,
 ⟨(some 11), none, .mv (.c (.i .i64 0))⟩]
def c50r2 : List AOper := [
 ⟨(some 12), none, .bin false .lss (.t 11) (.t 10)⟩]
def c50r3 : List AOper := [
 ⟨(some 13), none, .mv (.t 11)⟩,
 ⟨(some 14), none, .ia 1 (.t 9) (.t 11)⟩,
 ⟨(some 15), none, .ld none (.t 14)⟩,
 ⟨(some 5), none, .mv (.t 13)⟩,
 ⟨(some 6), none, .mv (.t 15)⟩]
def c50r4 : List AOper := [
 ⟨(some 16), none, .mv (.t 5)⟩,
 ⟨(some 17), none, .mv (.t 1)⟩,
 ⟨(some 18), none, .len (.t 17)⟩,
 ⟨(some 19), none, .bin false .geq (.t 16) (.t 18)⟩]
def c50r5 : List AOper := [
 ⟨(some 4), none, .mv (.c (.i .i64 1))⟩]
def c50r6 : List AOper := [
 ⟨(some 20), none, .mv (.t 1)⟩,
 ⟨(some 21), none, .mv (.t 5)⟩,
 ⟨(some 22), none, .ia 1 (.t 20) (.t 21)⟩,
 ⟨(some 23), none, .ld none (.t 22)⟩,
 ⟨(some 7), none, .mv (.t 23)⟩]
def c50r7 : List AOper := [
 ⟨(some 24), none, .mv (.t 6)⟩,
 ⟨(some 25), none, .mv (.t 7)⟩,
 ⟨(some 26), none, .call (.c (.fn 75 [] [])) [(.t 24), (.t 25)]⟩,
 ⟨(some 8), none, .mv (.t 26)⟩]
def c50r8 : List AOper := [
 ⟨(some 27), none, .mv (.t 8)⟩,
 ⟨(some 28), none, .bin false .neq (.t 27) (.c (.i .i64 0))⟩]
def c50r9 : List AOper := [
 ⟨(some 29), none, .mv (.t 8)⟩,
 ⟨(some 4), none, .mv (.t 29)⟩]
def c50r10 : List AOper := [
 ⟨(some 30), none, .bin false .add (.t 11) (.c (.i .i64 1))⟩,
 ⟨(some 11), none, .mv (.t 30)⟩]
abbrev c50b11 : AC := (.seq (.reg c50r2) (.seq (.cond (.t 12) .skip (.exit 0)) (.seq (.blk 1 (.seq (.reg c50r3) (.seq (.seq (.reg c50r4) (.cond (.t 19) (.seq (.reg c50r5) .ret) .skip)) (.seq (.reg c50r6) (.seq (.reg c50r7) (.seq (.reg c50r8) (.cond (.t 28) (.seq (.reg c50r9) .ret) .skip))))))) (.reg c50r10))))
def c50r12 : List AOper := [
 ⟨(some 31), none, .mv (.t 0)⟩,
 ⟨(some 32), none, .len (.t 31)⟩,
 ⟨(some 33), none, .mv (.t 1)⟩,
 ⟨(some 34), none, .len (.t 33)⟩,
 ⟨(some 35), none, .bin false .lss (.t 32) (.t 34)⟩]
def c50r13 : List AOper := [
 ⟨(some 4), none, .mv (.c (.i .i64 (-1)))⟩]
def c50r14 : List AOper := [
 ⟨(some 4), none, .mv (.c (.i .i64 0))⟩]
abbrev c50 : AC := (.seq (.reg c50r0) (.seq (.seq (.reg c50r1) (.blk 0 (.loop c50b11))) (.seq (.seq (.reg c50r12) (.cond (.t 35) (.seq (.reg c50r13) .ret) .skip)) (.seq (.reg c50r14) .ret))))
def q50 : List ARes := [.t 4]
theorem fn50 : fnOf Tryd.prog 50 = some (c50, q50, 36) := by kernel_rfl
def c52r0 : List AOper := [
 ⟨(some 2), none, .mv (.c (.i .i64 0))⟩]
def c52r1 : List AOper := [
 ⟨(some 3), none, .mv (.t 0)⟩,
 ⟨(some 4), none, .call (.c (.fn 76 [] [])) [(.t 3)]⟩,
 ⟨(some 2), none, .mv (.t 4)⟩]
abbrev c52 : AC := (.seq (.reg c52r0) (.seq (.reg c52r1) .ret))
def q52 : List ARes := [.t 2]
theorem fn52 : fnOf Tryd.prog 52 = some (c52, q52, 5) := by kernel_rfl
def c56r0 : List AOper := [
 ⟨(some 3), none, .box (.t 1)⟩,
 ⟨(some 4), none, .mv (.c (.b false))⟩]
def c56r1 : List AOper := [
 ⟨(some 5), none, .mv (.t 0)⟩,
 ⟨(some 6), none, .mkf 77 [] [(.t 3)]⟩,
 ⟨(some 7), none, .call (.c (.fn 66 [] [])) [(.t 5), (.t 6)]⟩,
 ⟨(some 8), none, .not (.t 7)⟩,
 ⟨(some 9), none, .mv (.t 8)⟩,
 ⟨(some 10), (some (9, true)), .mv (.t 0)⟩,
 ⟨(some 11), (some (9, true)), .call (.c (.fn 78 [] [])) [(.t 10), (.c (.fn 79 [] []))]⟩,
 ⟨(some 12), none, .pick (.t 9) (.t 11) (.c (.b false))⟩,
 ⟨(some 4), none, .mv (.t 12)⟩]
abbrev c56 : AC := (.seq (.reg c56r0) (.seq (.reg c56r1) .ret))
def q56 : List ARes := [.t 4]
theorem fn56 : fnOf Tryd.prog 56 = some (c56, q56, 13) := by kernel_rfl
def c57r0 : List AOper := [
 ⟨(some 4), none, .mv (.c (.sl 0 0 0 0))⟩,
 ⟨(some 5), none, .mv (.c (.i .i64 0))⟩]
def c57r1 : List AOper := [
 ⟨(some 12), none, .mv (.t 0)⟩,
 ⟨(some 13), none, .mv (.t 1)⟩,
 ⟨(some 14), none, .call (.c (.fn 72 [] [])) [(.t 12), (.t 13)]⟩,
 ⟨(some 11), none, .mv (.t 14)⟩,
 ⟨(some 15), none, .ext (.t 11) 0⟩,
 ⟨(some 16), none, .ext (.t 11) 1⟩,
 ⟨(some 6), none, .mv (.t 15)⟩,
 ⟨(some 7), none, .mv (.t 16)⟩]
def c57r2 : List AOper := [
 ⟨(some 17), none, .mv (.t 7)⟩,
 ⟨(some 18), none, .bin false .neq (.t 17) (.c (.i .i64 0))⟩]
def c57r3 : List AOper := [
 ⟨(some 19), none, .mv (.t 7)⟩,
 ⟨(some 4), none, .mv (.c (.sl 0 0 0 0))⟩,
 ⟨(some 5), none, .mv (.t 19)⟩]
def c57r4 : List AOper := [
 ⟨(some 8), none, .mv (.c (.sl 0 0 0 0))⟩]
def c57r5 : List AOper := [
 ⟨(some 20), none, .mv (.t 6)⟩,
 ⟨(some 21), none, .len (.t 20)⟩,
 ⟨(some 22), none, .mv (.c (.i .i64 0))⟩]
def c57r6 : List AOper := [
 ⟨(some 23), none, .bin false .lss (.t 22) (.t 21)⟩]
def c57r7 : List AOper := [
 ⟨(some 24), none, .ia 1 (.t 20) (.t 22)⟩,
 ⟨(some 25), none, .ld none (.t 24)⟩,
 ⟨(some 10), none, .mv (.t 25)⟩]
def c57r8 : List AOper := [
 ⟨(some 26), none, .mv (.t 8)⟩,
 ⟨(some 27), none, .len (.t 26)⟩,
 ⟨(some 28), none, .bin false .eql (.t 27) (.c (.i .i64 0))⟩,
 ⟨(some 29), none, .mv (.t 28)⟩,
 ⟨(some 30), (some (29, false)), .mv (.t 10)⟩,
 ⟨(some 31), (some (29, false)), .mv (.t 8)⟩,
 ⟨(some 32), (some (29, false)), .mv (.t 8)⟩,
 ⟨(some 33), (some (29, false)), .len (.t 32)⟩,
 ⟨(some 34), (some (29, false)), .bin false .sub (.t 33) (.c (.i .i64 1))⟩,
 ⟨(some 35), (some (29, false)), .ia 1 (.t 31) (.t 34)⟩,
 ⟨(some 36), (some (29, false)), .ld none (.t 35)⟩,
 ⟨(some 37), (some (29, false)), .mv (.t 1)⟩,
 ⟨(some 38), (some (29, false)), .bin false .add (.t 36) (.t 37)⟩,
 ⟨(some 39), (some (29, false)), .bin false .gtr (.t 30) (.t 38)⟩,
 ⟨(some 40), none, .pick (.t 29) (.c (.b true)) (.t 39)⟩]
def c57r9 : List AOper := [
 ⟨(some 41), none, .mv (.t 8)⟩,
 ⟨(some 42), none, .mv (.t 10)⟩,
 ⟨(some 43), none, .bsl 1 [.i .i64 0] [(0, 1, (.t 42))]⟩,
 ⟨(some 44), none, .app 1 8 (.t 41) (.t 43)⟩,
 ⟨(some 8), none, .mv (.t 44)⟩]
def c57r10 : List AOper := [
 ⟨(some 45), none, .bin false .add (.t 22) (.c (.i .i64 1))⟩,
 ⟨(some 22), none, .mv (.t 45)⟩]
abbrev c57b11 : AC := (.seq (.reg c57r6) (.seq (.cond (.t 23) .skip (.exit 0)) (.seq (.blk 1 (.seq (.reg c57r7) (.seq (.reg c57r8) (.cond (.t 40) (.reg c57r9) .skip)))) (.reg c57r10))))
def c57r12 : List AOper := [
 ⟨(some 46), none, .mv (.t 8)⟩,
 ⟨(some 4), none, .mv (.t 46)⟩,
 ⟨(some 5), none, .mv (.c (.i .i64 0))⟩]
abbrev c57 : AC := (.seq (.reg c57r0) (.seq (.reg c57r1) (.seq (.seq (.reg c57r2) (.cond (.t 18) (.seq (.reg c57r3) .ret) .skip)) (.seq (.reg c57r4) (.seq (.seq (.reg c57r5) (.blk 0 (.loop c57b11))) (.seq (.reg c57r12) .ret))))))
def q57 : List ARes := [.t 4, .t 5]
theorem fn57 : fnOf Tryd.prog 57 = some (c57, q57, 47) := by kernel_rfl
def c58r0 : List AOper := [
 ⟨(some 4), none, .mv (.c (.sl 0 0 0 0))⟩]
def c58r1 : List AOper := [
 ⟨(some 5), none, .mv (.c (.sl 0 0 0 0))⟩]
def c58r2 : List AOper := [
 ⟨(some 10), none, .mv (.t 0)⟩,
 ⟨(some 11), none, .len (.t 10)⟩,
 ⟨(some 12), none, .mv (.c (.i .i64 0))⟩]
def c58r3 : List AOper := [
 ⟨(some 13), none, .bin false .lss (.t 12) (.t 11)⟩]
def c58r4 : List AOper := [
 ⟨(some 14), none, .mv (.t 12)⟩,
 ⟨(some 15), none, .ia 1 (.t 10) (.t 12)⟩,
 ⟨(some 16), none, .ld none (.t 15)⟩,
 ⟨(some 6), none, .mv (.t 14)⟩,
 ⟨(some 7), none, .mv (.t 16)⟩]
def c58r5 : List AOper := [
 ⟨(some 17), none, .mv (.t 6)⟩,
 ⟨(some 18), none, .bin false .add (.t 17) (.c (.i .i64 1))⟩,
 ⟨(some 19), none, .bld [.i .i64 0, .i .i64 0, .i .i64 0, .i .i64 0, .i .i64 0, .i .i64 0, .i .i64 0, .i .i64 0, .i .i64 0, .i .i64 0, .i .i64 0, .i .i64 0, .i .i64 0, .i .i64 0, .i .i64 0, .i .i64 0, .i .i64 0] [(0, 1, (.t 18))]⟩,
 ⟨(some 8), none, .alloc [.i .i64 0, .i .i64 0, .i .i64 0, .i .i64 0, .i .i64 0, .i .i64 0, .i .i64 0, .i .i64 0, .i .i64 0, .i .i64 0, .i .i64 0, .i .i64 0, .i .i64 0, .i .i64 0, .i .i64 0, .i .i64 0, .i .i64 0]⟩,
 ⟨none, none, .sto (some 17) (.t 8) (.t 19)⟩]
def c58r6 : List AOper := [
 ⟨(some 20), none, .mv (.c (.i .i64 0))⟩]
def c58r7 : List AOper := [
 ⟨(some 21), none, .bin false .lss (.t 20) (.c (.i .i64 5))⟩]
def c58r8 : List AOper := [
 ⟨(some 22), none, .mv (.t 20)⟩,
 ⟨(some 9), none, .mv (.t 22)⟩]
def c58r9 : List AOper := [
 ⟨(some 23), none, .mv (.t 9)⟩,
 ⟨(some 24), none, .fa (.t 8) 6⟩,
 ⟨(some 25), none, .iap 5 1 (.t 24) (.t 23)⟩,
 ⟨none, none, .sto none (.t 25) (.c (.i .i64 3000))⟩]
def c58r10 : List AOper := [
 ⟨(some 26), none, .bin false .add (.t 20) (.c (.i .i64 1))⟩,
 ⟨(some 20), none, .mv (.t 26)⟩]
abbrev c58b11 : AC := (.seq (.reg c58r7) (.seq (.cond (.t 21) .skip (.exit 2)) (.seq (.blk 3 (.seq (.reg c58r8) (.reg c58r9))) (.reg c58r10))))
def c58r12 : List AOper := [
 ⟨(some 27), none, .mv (.t 7)⟩,
 ⟨(some 28), none, .mm true (.t 27) [(.c (.i .i64 0))]⟩,
 ⟨(some 29), none, .mv (.t 7)⟩,
 ⟨(some 30), none, .mv (.t 1)⟩,
 ⟨(some 31), none, .bin false .add (.t 29) (.t 30)⟩,
 ⟨(some 32), none, .fa (.t 8) 1⟩,
 ⟨(some 33), none, .iap 5 1 (.t 32) (.c (.i .i64 0))⟩,
 ⟨none, none, .sto none (.t 33) (.t 28)⟩,
 ⟨(some 34), none, .fa (.t 8) 6⟩,
 ⟨(some 35), none, .iap 5 1 (.t 34) (.c (.i .i64 0))⟩,
 ⟨none, none, .sto none (.t 35) (.t 31)⟩]
def c58r13 : List AOper := [
 ⟨(some 36), none, .mv (.t 5)⟩,
 ⟨(some 37), none, .ld (some 17) (.t 8)⟩,
 ⟨(some 38), none, .bsl 17 [.i .i64 0, .i .i64 0, .i .i64 0, .i .i64 0, .i .i64 0, .i .i64 0, .i .i64 0, .i .i64 0, .i .i64 0, .i .i64 0, .i .i64 0, .i .i64 0, .i .i64 0, .i .i64 0, .i .i64 0, .i .i64 0, .i .i64 0] [(0, 17, (.t 37))]⟩,
 ⟨(some 39), none, .app 17 136 (.t 36) (.t 38)⟩,
 ⟨(some 5), none, .mv (.t 39)⟩]
def c58r14 : List AOper := [
 ⟨(some 40), none, .bin false .add (.t 12) (.c (.i .i64 1))⟩,
 ⟨(some 12), none, .mv (.t 40)⟩]
abbrev c58b15 : AC := (.seq (.reg c58r3) (.seq (.cond (.t 13) .skip (.exit 0)) (.seq (.blk 1 (.seq (.reg c58r4) (.seq (.reg c58r5) (.seq (.seq (.reg c58r6) (.blk 2 (.loop c58b11))) (.seq (.reg c58r12) (.reg c58r13)))))) (.reg c58r14))))
def c58r16 : List AOper := [
 ⟨(some 41), none, .mv (.t 5)⟩,
 ⟨(some 4), none, .mv (.t 41)⟩]
abbrev c58 : AC := (.seq (.reg c58r0) (.seq (.reg c58r1) (.seq (.seq (.reg c58r2) (.blk 0 (.loop c58b15))) (.seq (.reg c58r16) .ret))))
def q58 : List ARes := [.t 4]
theorem fn58 : fnOf Tryd.prog 58 = some (c58, q58, 42) := by kernel_rfl
def c59r0 : List AOper := [
 ⟨(some 4), none, .mv (.c (.sl 0 0 0 0))⟩]
def c59r1 : List AOper := [
 ⟨(some 5), none, .mv (.c (.sl 0 0 0 0))⟩]
def c59r2 : List AOper := [
 ⟨(some 10), none, .mv (.t 1)⟩,
 ⟨(some 11), none, .len (.t 10)⟩,
 ⟨(some 12), none, .mv (.c (.i .i64 0))⟩]
def c59r3 : List AOper := [
 ⟨(some 13), none, .bin false .lss (.t 12) (.t 11)⟩]
def c59r4 : List AOper := [
 ⟨(some 14), none, .ia 1 (.t 10) (.t 12)⟩,
 ⟨(some 15), none, .ld none (.t 14)⟩,
 ⟨(some 7), none, .mv (.t 15)⟩]
def c59r5 : List AOper := [
 ⟨(some 16), none, .mv (.t 0)⟩,
 ⟨(some 17), none, .len (.t 16)⟩,
 ⟨(some 18), none, .mv (.c (.i .i64 0))⟩]
def c59r6 : List AOper := [
 ⟨(some 19), none, .bin false .lss (.t 18) (.t 17)⟩]
def c59r7 : List AOper := [
 ⟨(some 20), none, .mv (.t 18)⟩,
 ⟨(some 21), none, .ia 6 (.t 16) (.t 18)⟩,
 ⟨(some 22), none, .ld (some 6) (.t 21)⟩,
 ⟨(some 9), none, .alloc [.i .i64 0, .i .i64 0, .i .i64 0, .i .i64 0, .i .i64 0, .i .i64 0]⟩,
 ⟨(some 8), none, .mv (.t 20)⟩,
 ⟨none, none, .sto (some 6) (.t 9) (.t 22)⟩]
def c59r8 : List AOper := [
 ⟨(some 23), none, .fa (.t 9) 1⟩,
 ⟨(some 24), none, .iap 5 1 (.t 23) (.c (.i .i64 0))⟩,
 ⟨(some 25), none, .ld none (.t 24)⟩,
 ⟨(some 26), none, .mv (.t 7)⟩,
 ⟨(some 27), none, .bin false .eql (.t 25) (.t 26)⟩]
def c59r9 : List AOper := [
 ⟨(some 28), none, .mv (.t 5)⟩,
 ⟨(some 29), none, .mv (.t 8)⟩,
 ⟨(some 30), none, .bsl 1 [.i .i64 0] [(0, 1, (.t 29))]⟩,
 ⟨(some 31), none, .app 1 8 (.t 28) (.t 30)⟩,
 ⟨(some 5), none, .mv (.t 31)⟩]
def c59r10 : List AOper := [
 ⟨(some 32), none, .bin false .add (.t 18) (.c (.i .i64 1))⟩,
 ⟨(some 18), none, .mv (.t 32)⟩]
abbrev c59b11 : AC := (.seq (.reg c59r6) (.seq (.cond (.t 19) .skip (.exit 2)) (.seq (.blk 3 (.seq (.reg c59r7) (.seq (.reg c59r8) (.cond (.t 27) (.seq (.reg c59r9) (.exit 2)) .skip)))) (.reg c59r10))))
def c59r12 : List AOper := [
 ⟨(some 33), none, .bin false .add (.t 12) (.c (.i .i64 1))⟩,
 ⟨(some 12), none, .mv (.t 33)⟩]
abbrev c59b13 : AC := (.seq (.reg c59r3) (.seq (.cond (.t 13) .skip (.exit 0)) (.seq (.blk 1 (.seq (.reg c59r4) (.seq (.reg c59r5) (.blk 2 (.loop c59b11))))) (.reg c59r12))))
def c59r14 : List AOper := [
 ⟨(some 34), none, .mv (.t 5)⟩,
 ⟨(some 4), none, .mv (.t 34)⟩]
abbrev c59 : AC := (.seq (.reg c59r0) (.seq (.reg c59r1) (.seq (.seq (.reg c59r2) (.blk 0 (.loop c59b13))) (.seq (.reg c59r14) .ret))))
def q59 : List ARes := [.t 4]
theorem fn59 : fnOf Tryd.prog 59 = some (c59, q59, 35) := by kernel_rfl
def c60r0 : List AOper := [
 ⟨(some 2), none, .mv (.c (.sl 0 0 0 0))⟩]
def c60r1 : List AOper := [
 ⟨(some 3), none, .mv (.c (.sl 0 0 0 0))⟩]
def c60r2 : List AOper := [
 ⟨(some 5), none, .mv (.t 0)⟩,
 ⟨(some 6), none, .mv (.c (.i .i64 0))⟩]
def c60r3 : List AOper := [
 ⟨(some 7), none, .bin false .lss (.t 6) (.t 5)⟩]
def c60r4 : List AOper := [
 ⟨(some 8), none, .mv (.t 6)⟩,
 ⟨(some 4), none, .mv (.t 8)⟩]
def c60r5 : List AOper := [
 ⟨(some 9), none, .mv (.t 3)⟩,
 ⟨(some 10), none, .mv (.t 4)⟩,
 ⟨(some 11), none, .bsl 1 [.i .i64 0] [(0, 1, (.t 10))]⟩,
 ⟨(some 12), none, .app 1 8 (.t 9) (.t 11)⟩,
 ⟨(some 3), none, .mv (.t 12)⟩]
def c60r6 : List AOper := [
 ⟨(some 13), none, .bin false .add (.t 6) (.c (.i .i64 1))⟩,
 ⟨(some 6), none, .mv (.t 13)⟩]
abbrev c60b7 : AC := (.seq (.reg c60r3) (.seq (.cond (.t 7) .skip (.exit 0)) (.seq (.blk 1 (.seq (.reg c60r4) (.reg c60r5))) (.reg c60r6))))
def c60r8 : List AOper := [
 ⟨(some 14), none, .mv (.t 3)⟩,
 ⟨(some 2), none, .mv (.t 14)⟩]
abbrev c60 : AC := (.seq (.reg c60r0) (.seq (.reg c60r1) (.seq (.seq (.reg c60r2) (.blk 0 (.loop c60b7))) (.seq (.reg c60r8) .ret))))
def q60 : List ARes := [.t 2]
theorem fn60 : fnOf Tryd.prog 60 = some (c60, q60, 15) := by kernel_rfl
def c61r0 : List AOper := [
 ⟨(some 2), none, .box (.t 0)⟩,
 ⟨(some 3), none, .box (.t 1)⟩,
 ⟨(some 4), none, .mv (.c (.i .i64 0))⟩,
 ⟨(some 5), none, .mv (.c (.b false))⟩]
def c61r1 : List AOper := [
 ⟨(some 14), none, .ld (some 17) (.t 2)⟩,
 ⟨(some 15), none, .ld (some 6) (.t 3)⟩,
 ⟨(some 16), none, .call (.c (.fn 80 [] [])) [(.t 14), (.t 15)]⟩,
 ⟨(some 13), none, .mv (.t 16)⟩,
 ⟨(some 17), none, .ext (.t 13) 0⟩,
 ⟨(some 18), none, .ext (.t 13) 1⟩,
 ⟨(some 6), none, .alloc [.i .i64 0, .i .i64 0, .i .i64 0, .i .i64 0, .i .i64 0]⟩,
 ⟨none, none, .sto (some 5) (.t 6) (.t 17)⟩,
 ⟨(some 7), none, .mv (.t 18)⟩]
def c61r2 : List AOper := [
 ⟨(some 20), none, .ld (some 17) (.t 2)⟩,
 ⟨(some 21), none, .ld (some 6) (.t 3)⟩,
 ⟨(some 22), none, .call (.c (.fn 81 [] [])) [(.t 20), (.t 21)]⟩,
 ⟨(some 19), none, .mv (.t 22)⟩,
 ⟨(some 23), none, .ext (.t 19) 0⟩,
 ⟨(some 24), none, .ext (.t 19) 1⟩,
 ⟨(some 8), none, .mv (.t 23)⟩,
 ⟨(some 9), none, .mv (.t 24)⟩]
def c61r3 : List AOper := [
 ⟨(some 10), none, .mv (.c (.i .i64 0))⟩]
def c61r4 : List AOper := [
 ⟨(some 25), none, .ld (some 5) (.t 6)⟩,
 ⟨(some 26), none, .mv (.c (.i .i64 0))⟩]
def c61r5 : List AOper := [
 ⟨(some 27), none, .bin false .lss (.t 26) (.c (.i .i64 5))⟩]
def c61r6 : List AOper := [
 ⟨(some 28), none, .iv 5 1 false (.t 25) (.t 26)⟩,
 ⟨(some 12), none, .mv (.t 28)⟩]
def c61r7 : List AOper := [
 ⟨(some 29), none, .mv (.t 10)⟩,
 ⟨(some 30), none, .mv (.t 12)⟩,
 ⟨(some 31), none, .bin false .add (.t 29) (.t 30)⟩,
 ⟨(some 10), none, .mv (.t 31)⟩]
def c61r8 : List AOper := [
 ⟨(some 32), none, .bin false .add (.t 26) (.c (.i .i64 1))⟩,
 ⟨(some 26), none, .mv (.t 32)⟩]
abbrev c61b9 : AC := (.seq (.reg c61r5) (.seq (.cond (.t 27) .skip (.exit 0)) (.seq (.blk 1 (.seq (.reg c61r6) (.reg c61r7))) (.reg c61r8))))
def c61r10 : List AOper := [
 ⟨(some 33), none, .mv (.t 10)⟩,
 ⟨(some 34), none, .mv (.t 8)⟩,
 ⟨(some 35), none, .mv (.t 34)⟩,
 ⟨(some 36), (some (35, true)), .mv (.t 7)⟩,
 ⟨(some 37), (some (35, true)), .bin false .eql (.t 36) (.c (.i .i64 0))⟩,
 ⟨(some 38), none, .pick (.t 35) (.t 37) (.c (.b false))⟩,
 ⟨(some 39), none, .mv (.t 38)⟩,
 ⟨(some 40), (some (39, true)), .mv (.t 9)⟩,
 ⟨(some 41), (some (39, true)), .bin false .eql (.t 40) (.c (.i .i64 0))⟩,
 ⟨(some 42), none, .pick (.t 39) (.t 41) (.c (.b false))⟩,
 ⟨(some 4), none, .mv (.t 33)⟩,
 ⟨(some 5), none, .mv (.t 42)⟩]
abbrev c61 : AC := (.seq (.reg c61r0) (.seq (.reg c61r1) (.seq (.reg c61r2) (.seq (.reg c61r3) (.seq (.seq (.reg c61r4) (.blk 0 (.loop c61b9))) (.seq (.reg c61r10) .ret))))))
def q61 : List ARes := [.t 4, .t 5]
theorem fn61 : fnOf Tryd.prog 61 = some (c61, q61, 43) := by kernel_rfl
def c62r0 : List AOper := [
 ⟨(some 3), none, .box (.t 0)⟩,
 ⟨(some 4), none, .box (.t 1)⟩,
 ⟨(some 6), none, .alloc [.i .i64 0, .i .i64 0, .i .i64 0, .i .i64 0, .i .i64 0, .i .i64 0, .i .i64 0, .i .i64 0, .i .i64 0, .i .i64 0, .i .i64 0, .i .i64 0, .i .i64 0, .i .i64 0, .i .i64 0, .i .i64 0, .i .i64 0]⟩,
 ⟨(some 7), none, .mv (.c (.i .i64 0))⟩]
def c62r1 : List AOper := [
 ⟨(some 13), none, .ld (some 17) (.t 3)⟩,
 ⟨(some 14), none, .call (.c (.fn 30 [] [])) [(.t 13)]⟩,
 ⟨(some 15), none, .not (.t 14)⟩]
def c62r2 : List AOper := [
 ⟨(some 16), none, .bld [.i .i64 0, .i .i64 0, .i .i64 0, .i .i64 0, .i .i64 0, .i .i64 0, .i .i64 0, .i .i64 0, .i .i64 0, .i .i64 0, .i .i64 0, .i .i64 0, .i .i64 0, .i .i64 0, .i .i64 0, .i .i64 0, .i .i64 0] []⟩,
 ⟨none, none, .sto (some 17) (.t 6) (.t 16)⟩,
 ⟨(some 7), none, .mv (.c (.i .i64 31))⟩]
def c62r3 : List AOper := [
 ⟨(some 17), none, .mv (.t 2)⟩,
 ⟨(some 18), none, .call (.c (.fn 64 [] [])) [(.c (.i .i64 (-20))), (.t 17), (.c (.i .i64 20))]⟩,
 ⟨(some 8), none, .mv (.t 18)⟩]
def c62r4 : List AOper := [
 ⟨(some 19), none, .ld (some 5) (.t 4)⟩,
 ⟨(some 20), none, .mv (.c (.i .i64 0))⟩]
def c62r5 : List AOper := [
 ⟨(some 21), none, .bin false .lss (.t 20) (.c (.i .i64 5))⟩]
def c62r6 : List AOper := [
 ⟨(some 22), none, .iv 5 1 false (.t 19) (.t 20)⟩,
 ⟨(some 10), none, .mv (.t 22)⟩]
def c62r7 : List AOper := [
 ⟨(some 23), none, .mv (.t 8)⟩,
 ⟨(some 24), none, .mv (.t 23)⟩,
 ⟨(some 25), (some (24, true)), .mv (.t 10)⟩,
 ⟨(some 26), (some (24, true)), .call (.c (.fn 64 [] [])) [(.c (.i .i64 (-300))), (.t 25), (.c (.i .i64 300))]⟩,
 ⟨(some 27), none, .pick (.t 24) (.t 26) (.c (.b false))⟩,
 ⟨(some 8), none, .mv (.t 27)⟩]
def c62r8 : List AOper := [
 ⟨(some 28), none, .bin false .add (.t 20) (.c (.i .i64 1))⟩,
 ⟨(some 20), none, .mv (.t 28)⟩]
abbrev c62b9 : AC := (.seq (.reg c62r5) (.seq (.cond (.t 21) .skip (.exit 0)) (.seq (.blk 1 (.seq (.reg c62r6) (.reg c62r7))) (.reg c62r8))))
def c62r10 : List AOper := [
 ⟨(some 29), none, .mv (.t 8)⟩,
 ⟨(some 30), none, .not (.t 29)⟩]
def c62r11 : List AOper := [
 ⟨(some 31), none, .bld [.i .i64 0, .i .i64 0, .i .i64 0, .i .i64 0, .i .i64 0, .i .i64 0, .i .i64 0, .i .i64 0, .i .i64 0, .i .i64 0, .i .i64 0, .i .i64 0, .i .i64 0, .i .i64 0, .i .i64 0, .i .i64 0, .i .i64 0] []⟩,
 ⟨none, none, .sto (some 17) (.t 6) (.t 31)⟩,
 ⟨(some 7), none, .mv (.c (.i .i64 2))⟩]
def c62r12 : List AOper := [
 ⟨(some 32), none, .fa (.t 3) 0⟩,
 ⟨(some 33), none, .ld none (.t 32)⟩,
 ⟨(some 34), none, .mv (.t 2)⟩,
 ⟨(some 35), none, .bin false .add (.t 33) (.t 34)⟩,
 ⟨(some 36), none, .fa (.t 3) 0⟩,
 ⟨none, none, .sto none (.t 36) (.t 35)⟩]
def c62r13 : List AOper := [
 ⟨(some 37), none, .ld (some 5) (.t 4)⟩,
 ⟨(some 38), none, .mv (.c (.i .i64 0))⟩]
def c62r14 : List AOper := [
 ⟨(some 39), none, .bin false .lss (.t 38) (.c (.i .i64 5))⟩]
def c62r15 : List AOper := [
 ⟨(some 40), none, .mv (.t 38)⟩,
 ⟨(some 41), none, .iv 5 1 false (.t 37) (.t 38)⟩,
 ⟨(some 11), none, .mv (.t 40)⟩,
 ⟨(some 12), none, .mv (.t 41)⟩]
def c62r16 : List AOper := [
 ⟨(some 42), none, .mv (.t 11)⟩,
 ⟨(some 43), none, .fa (.t 3) 1⟩,
 ⟨(some 44), none, .iap 5 1 (.t 43) (.t 42)⟩,
 ⟨(some 45), none, .ld none (.t 44)⟩,
 ⟨(some 46), none, .mv (.t 2)⟩,
 ⟨(some 47), none, .mv (.t 12)⟩,
 ⟨(some 48), none, .bin false .mul (.t 46) (.t 47)⟩,
 ⟨(some 49), none, .bin false .add (.t 45) (.t 48)⟩,
 ⟨(some 50), none, .fa (.t 3) 1⟩,
 ⟨(some 51), none, .iap 5 1 (.t 50) (.t 42)⟩,
 ⟨none, none, .sto none (.t 51) (.t 49)⟩]
def c62r17 : List AOper := [
 ⟨(some 52), none, .mv (.t 11)⟩,
 ⟨(some 53), none, .fa (.t 3) 6⟩,
 ⟨(some 54), none, .iap 5 1 (.t 53) (.t 52)⟩,
 ⟨(some 55), none, .ld none (.t 54)⟩,
 ⟨(some 56), none, .mv (.t 2)⟩,
 ⟨(some 57), none, .mv (.t 12)⟩,
 ⟨(some 58), none, .bin false .mul (.t 56) (.t 57)⟩,
 ⟨(some 59), none, .bin false .add (.t 55) (.t 58)⟩,
 ⟨(some 60), none, .fa (.t 3) 6⟩,
 ⟨(some 61), none, .iap 5 1 (.t 60) (.t 52)⟩,
 ⟨none, none, .sto none (.t 61) (.t 59)⟩]
def c62r18 : List AOper := [
 ⟨(some 62), none, .bin false .add (.t 38) (.c (.i .i64 1))⟩,
 ⟨(some 38), none, .mv (.t 62)⟩]
abbrev c62b19 : AC := (.seq (.reg c62r14) (.seq (.cond (.t 39) .skip (.exit 2)) (.seq (.blk 3 (.seq (.reg c62r15) (.seq (.reg c62r16) (.reg c62r17)))) (.reg c62r18))))
def c62r20 : List AOper := [
 ⟨(some 63), none, .ld (some 17) (.t 3)⟩,
 ⟨(some 64), none, .call (.c (.fn 30 [] [])) [(.t 63)]⟩,
 ⟨(some 65), none, .not (.t 64)⟩]
def c62r21 : List AOper := [
 ⟨(some 66), none, .bld [.i .i64 0, .i .i64 0, .i .i64 0, .i .i64 0, .i .i64 0, .i .i64 0, .i .i64 0, .i .i64 0, .i .i64 0, .i .i64 0, .i .i64 0, .i .i64 0, .i .i64 0, .i .i64 0, .i .i64 0, .i .i64 0, .i .i64 0] []⟩,
 ⟨none, none, .sto (some 17) (.t 6) (.t 66)⟩,
 ⟨(some 7), none, .mv (.c (.i .i64 2))⟩]
def c62r22 : List AOper := [
 ⟨(some 67), none, .ld (some 17) (.t 3)⟩,
 ⟨none, none, .sto (some 17) (.t 6) (.t 67)⟩,
 ⟨(some 7), none, .mv (.c (.i .i64 0))⟩]
abbrev c62 : AC := (.seq (.reg c62r0) (.seq (.seq (.reg c62r1) (.cond (.t 15) (.seq (.reg c62r2) .ret) .skip)) (.seq (.reg c62r3) (.seq (.seq (.reg c62r4) (.blk 0 (.loop c62b9))) (.seq (.seq (.reg c62r10) (.cond (.t 30) (.seq (.reg c62r11) .ret) .skip)) (.seq (.reg c62r12) (.seq (.seq (.reg c62r13) (.blk 2 (.loop c62b19))) (.seq (.seq (.reg c62r20) (.cond (.t 65) (.seq (.reg c62r21) .ret) .skip)) (.seq (.reg c62r22) .ret)))))))))
def q62 : List ARes := [.c 6 (some 17), .t 7]
theorem fn62 : fnOf Tryd.prog 62 = some (c62, q62, 68) := by kernel_rfl
def c63r0 : List AOper := [
 ⟨(some 4), none, .mv (.c (.i .i64 0))⟩]
def c63r1 : List AOper := [
 ⟨(some 6), none, .mv (.t 0)⟩,
 ⟨(some 7), none, .len (.t 6)⟩,
 ⟨(some 8), none, .mv (.c (.i .i64 0))⟩]
def c63r2 : List AOper := [
 ⟨(some 9), none, .bin false .lss (.t 8) (.t 7)⟩]
def c63r3 : List AOper := [
 ⟨(some 10), none, .mv (.t 8)⟩,
 ⟨(some 5), none, .mv (.t 10)⟩]
def c63r4 : List AOper := [
 ⟨(some 11), none, .mv (.t 1)⟩,
 ⟨(some 12), none, .mv (.t 0)⟩,
 ⟨(some 13), none, .mv (.t 5)⟩,
 ⟨(some 14), none, .ia 17 (.t 12) (.t 13)⟩,
 ⟨(some 15), none, .ld (some 17) (.t 14)⟩,
 ⟨(some 16), none, .call (.t 11) [(.t 15)]⟩]
def c63r5 : List AOper := [
 ⟨(some 17), none, .mv (.t 5)⟩,
 ⟨(some 4), none, .mv (.t 17)⟩]
def c63r6 : List AOper := [
 ⟨(some 18), none, .bin false .add (.t 8) (.c (.i .i64 1))⟩,
 ⟨(some 8), none, .mv (.t 18)⟩]
abbrev c63b7 : AC := (.seq (.reg c63r2) (.seq (.cond (.t 9) .skip (.exit 0)) (.seq (.blk 1 (.seq (.reg c63r3) (.seq (.reg c63r4) (.cond (.t 16) (.seq (.reg c63r5) .ret) .skip)))) (.reg c63r6))))
def c63r8 : List AOper := [
 ⟨(some 4), none, .mv (.c (.i .i64 (-1)))⟩]
abbrev c63 : AC := (.seq (.reg c63r0) (.seq (.seq (.reg c63r1) (.blk 0 (.loop c63b7))) (.seq (.reg c63r8) .ret)))
def q63 : List ARes := [.t 4]
theorem fn63 : fnOf Tryd.prog 63 = some (c63, q63, 19) := by kernel_rfl
def c64r0 : List AOper := [
 ⟨(some 6), none, .mv (.c (.b false))⟩]
def c64r1 : List AOper := [
 ⟨(some 7), none, .mv (.t 0)⟩,
 ⟨(some 8), none, .mv (.t 1)⟩,
 ⟨(some 9), none, .bin false .leq (.t 7) (.t 8)⟩,
 ⟨(some 10), none, .mv (.t 9)⟩,
 ⟨(some 11), (some (10, true)), .mv (.t 1)⟩,
 ⟨(some 12), (some (10, true)), .mv (.t 2)⟩,
 ⟨(some 13), (some (10, true)), .bin false .leq (.t 11) (.t 12)⟩,
 ⟨(some 14), none, .pick (.t 10) (.t 13) (.c (.b false))⟩,
 ⟨(some 6), none, .mv (.t 14)⟩]
abbrev c64 : AC := (.seq (.reg c64r0) (.seq (.reg c64r1) .ret))
def q64 : List ARes := [.t 6]
theorem fn64 : fnOf Tryd.prog 64 = some (c64, q64, 15) := by kernel_rfl
def c65r0 : List AOper := [
 ⟨(some 4), none, .mv (.c (.i .i64 0))⟩]
def c65r1 : List AOper := [
 ⟨(some 6), none, .mv (.t 0)⟩,
 ⟨(some 7), none, .len (.t 6)⟩,
 ⟨(some 8), none, .mv (.c (.i .i64 0))⟩]
def c65r2 : List AOper := [
 ⟨(some 9), none, .bin false .lss (.t 8) (.t 7)⟩]
def c65r3 : List AOper := [
 ⟨(some 10), none, .mv (.t 8)⟩,
 ⟨(some 5), none, .mv (.t 10)⟩]
def c65r4 : List AOper := [
 ⟨(some 11), none, .mv (.t 1)⟩,
 ⟨(some 12), none, .mv (.t 0)⟩,
 ⟨(some 13), none, .mv (.t 5)⟩,
 ⟨(some 14), none, .ia 6 (.t 12) (.t 13)⟩,
 ⟨(some 15), none, .ld (some 6) (.t 14)⟩,
 ⟨(some 16), none, .call (.t 11) [(.t 15)]⟩]
def c65r5 : List AOper := [
 ⟨(some 17), none, .mv (.t 5)⟩,
 ⟨(some 4), none, .mv (.t 17)⟩]
def c65r6 : List AOper := [
 ⟨(some 18), none, .bin false .add (.t 8) (.c (.i .i64 1))⟩,
 ⟨(some 8), none, .mv (.t 18)⟩]
abbrev c65b7 : AC := (.seq (.reg c65r2) (.seq (.cond (.t 9) .skip (.exit 0)) (.seq (.blk 1 (.seq (.reg c65r3) (.seq (.reg c65r4) (.cond (.t 16) (.seq (.reg c65r5) .ret) .skip)))) (.reg c65r6))))
def c65r8 : List AOper := [
 ⟨(some 4), none, .mv (.c (.i .i64 (-1)))⟩]
abbrev c65 : AC := (.seq (.reg c65r0) (.seq (.seq (.reg c65r1) (.blk 0 (.loop c65b7))) (.seq (.reg c65r8) .ret)))
def q65 : List ARes := [.t 4]
theorem fn65 : fnOf Tryd.prog 65 = some (c65, q65, 19) := by kernel_rfl
def c66r0 : List AOper := [
 ⟨(some 4), none, .mv (.c (.b false))⟩]
def c66r1 : List AOper := [
 ⟨(some 5), none, .mv (.t 0)⟩,
 ⟨(some 6), none, .mv (.t 1)⟩,
 ⟨(some 7), none, .call (.c (.fn 82 [] [])) [(.t 5), (.t 6)]⟩,
 ⟨(some 8), none, .bin false .geq (.t 7) (.c (.i .i64 0))⟩,
 ⟨(some 4), none, .mv (.t 8)⟩]
abbrev c66 : AC := (.seq (.reg c66r0) (.seq (.reg c66r1) .ret))
def q66 : List ARes := [.t 4]
theorem fn66 : fnOf Tryd.prog 66 = some (c66, q66, 9) := by kernel_rfl
def c67r0 : List AOper := [
 ⟨(some 2), none, .mv (.c (.b false))⟩]
def c67r1 : List AOper := [
 ⟨(some 3), none, .mv (.t 0)⟩,
 ⟨(some 4), none, .call (.c (.fn 64 [] [])) [(.c (.i .i64 0)), (.t 3), (.c (.i .i64 3000))]⟩,
 ⟨(some 5), none, .not (.t 4)⟩,
 ⟨(some 2), none, .mv (.t 5)⟩]
abbrev c67 : AC := (.seq (.reg c67r0) (.seq (.reg c67r1) .ret))
def q67 : List ARes := [.t 2]
theorem fn67 : fnOf Tryd.prog 67 = some (c67, q67, 6) := by kernel_rfl
def c68r0 : List AOper := [
 ⟨(some 2), none, .box (.t 0)⟩,
 ⟨(some 4), none, .mv (.c (.sl 0 0 0 0))⟩]
def c68r1 : List AOper := [
 ⟨(some 6), none, .mv (.t 1)⟩]
def c68r2 : List AOper := [
 ⟨(some 5), none, .mv (.t 7)⟩]
def c68r3 : List AOper := [
 ⟨(some 8), none, .ld none (.t 2)⟩,
 ⟨(some 9), none, .mv (.t 5)⟩,
 ⟨(some 10), none, .bsl 1 [.i .i64 0] [(0, 1, (.t 9))]⟩,
 ⟨(some 11), none, .app 1 8 (.t 8) (.t 10)⟩,
 ⟨none, none, .sto none (.t 2) (.t 11)⟩]
abbrev c68a4 : AC := (.reg c68r2)
abbrev c68y4 : AC := (.blk 1 (.reg c68r3))
def c68r5 : List AOper := [
 ⟨(some 12), none, .ld none (.t 2)⟩,
 ⟨(some 4), none, .mv (.t 12)⟩]
abbrev c68 : AC := (.seq (.reg c68r0) (.seq (.seq (.reg c68r1) (.blk 0 (.rf (.t 6) [7] c68a4 c68y4))) (.seq (.reg c68r5) .ret)))
def q68 : List ARes := [.t 4]
theorem fn68 : fnOf Tryd.prog 68 = some (c68, q68, 13) := by kernel_rfl
def c69r0 : List AOper := [
 ⟨(some 3), none, .ld none (.t 1)⟩,
 ⟨(some 4), none, .bin false .neq (.t 3) (.c (.i .u64 0))⟩]
def c69r1 : List AOper := [
 ⟨(some 9), none, .mv (.t 0)⟩,
 ⟨(some 10), none, .ld none (.t 1)⟩,
 ⟨(some 11), none, .call (.c (.fn 70 [] [])) [(.t 10)]⟩,
 ⟨(some 12), none, .call (.t 9) [(.t 11)]⟩,
 ⟨(some 13), none, .not (.t 12)⟩]
def c69r2 : List AOper := [
 ⟨(some 5), none, .ld none (.t 1)⟩,
 ⟨(some 6), none, .ld none (.t 1)⟩,
 ⟨(some 7), none, .bin false .sub (.t 6) (.c (.i .u64 1))⟩,
 ⟨(some 8), none, .bin false .and (.t 5) (.t 7)⟩,
 ⟨none, none, .sto none (.t 1) (.t 8)⟩]
abbrev c69b3 : AC := (.seq (.seq (.reg c69r0) (.cond (.t 4) .skip (.exit 0))) (.seq (.blk 1 (.seq (.reg c69r1) (.cond (.t 13) .ret .skip))) (.reg c69r2)))
abbrev c69 : AC := (.blk 0 (.loop c69b3))
def q69 : List ARes := []
theorem fn69 : fnOf Tryd.prog 69 = some (c69, q69, 14) := by kernel_rfl
def c70r0 : List AOper := [
 ⟨(some 2), none, .mv (.c (.i .i64 0))⟩]
def c70r1 : List AOper := [
 ⟨(some 3), none, .mv (.t 0)⟩,
 ⟨(some 4), none, .bin false .eql (.t 3) (.c (.i .u64 0))⟩]
def c70r2 : List AOper := [
 ⟨(some 2), none, .mv (.c (.i .i64 64))⟩]
def c70r3 : List AOper := [
 ⟨(some 5), none, .mv (.t 0)⟩,
 ⟨(some 6), none, .mv (.t 0)⟩,
 ⟨(some 7), none, .neg (.t 6)⟩,
 ⟨(some 8), none, .bin false .and (.t 5) (.t 7)⟩,
 ⟨(some 9), none, .bin false .mul (.t 8) (.c (.i .u64 285870213051353865))⟩,
 ⟨(some 10), none, .bin false .shr (.t 9) (.c (.i .u64 58))⟩,
 ⟨(some 11), none, .iap 64 1 (.c (.pv TABC 0)) (.t 10)⟩,
 ⟨(some 12), none, .ld none (.t 11)⟩,
 ⟨(some 13), none, .conv .i64 (.t 12)⟩,
 ⟨(some 2), none, .mv (.t 13)⟩]
abbrev c70 : AC := (.seq (.reg c70r0) (.seq (.seq (.reg c70r1) (.cond (.t 4) (.seq (.reg c70r2) .ret) .skip)) (.seq (.reg c70r3) .ret)))
def q70 : List ARes := [.t 2]
theorem fn70 : fnOf Tryd.prog 70 = some (c70, q70, 14) := by kernel_rfl
def c72r0 : List AOper := [
 ⟨(some 4), none, .mv (.c (.sl 0 0 0 0))⟩,
 ⟨(some 5), none, .mv (.c (.i .i64 0))⟩]
def c72r1 : List AOper := [
 ⟨(some 7), none, .mv (.t 0)⟩,
 ⟨(some 8), none, .len (.t 7)⟩,
 ⟨(some 9), none, .bin false .gtr (.t 8) (.c (.i .i64 200))⟩,
 ⟨(some 6), none, .mv (.t 9)⟩]
def c72r2 : List AOper := [
 ⟨(some 4), none, .mv (.c (.sl 0 0 0 0))⟩,
 ⟨(some 5), none, .mv (.c (.i .i64 4))⟩]
def c72r3 : List AOper := [
 ⟨(some 11), none, .mv (.t 1)⟩,
 ⟨(some 12), none, .call (.c (.fn 64 [] [])) [(.c (.i .i64 0)), (.t 11), (.c (.i .i64 1000000))]⟩,
 ⟨(some 13), none, .not (.t 12)⟩,
 ⟨(some 14), none, .mv (.t 13)⟩,
 ⟨(some 15), (some (14, false)), .mv (.t 0)⟩,
 ⟨(some 16), (some (14, false)), .call (.c (.fn 66 [] [])) [(.t 15), (.c (.fn 83 [] []))]⟩,
 ⟨(some 17), none, .pick (.t 14) (.c (.b true)) (.t 16)⟩,
 ⟨(some 10), none, .mv (.t 17)⟩]
def c72r4 : List AOper := [
 ⟨(some 4), none, .mv (.c (.sl 0 0 0 0))⟩,
 ⟨(some 5), none, .mv (.c (.i .i64 2))⟩]
def c72r5 : List AOper := [
 ⟨(some 18), none, .mv (.t 0)⟩,
 ⟨(some 19), none, .call (.c (.fn 85 [] [])) [(.t 18)]⟩,
 ⟨(some 20), none, .call (.c (.fn 84 [] [])) [(.t 19)]⟩,
 ⟨(some 4), none, .mv (.t 20)⟩,
 ⟨(some 5), none, .mv (.c (.i .i64 0))⟩]
abbrev c72 : AC := (.seq (.reg c72r0) (.seq (.blk 0 (.seq (.reg c72r1) (.cond (.t 6) (.seq (.reg c72r2) .ret) (.seq (.reg c72r3) (.cond (.t 10) (.seq (.reg c72r4) .ret) .skip))))) (.seq (.reg c72r5) .ret)))
def q72 : List ARes := [.t 4, .t 5]
theorem fn72 : fnOf Tryd.prog 72 = some (c72, q72, 21) := by kernel_rfl
def c73r0 : List AOper := [
 ⟨(some 1), none, .box (.t 0)⟩,
 ⟨(some 2), none, .mv (.c (.nilf))⟩]
def c73r1 : List AOper := [
 ⟨(some 3), none, .mkf 86 [] [(.t 1)]⟩,
 ⟨(some 2), none, .mv (.t 3)⟩]
abbrev c73 : AC := (.seq (.reg c73r0) (.seq (.reg c73r1) .ret))
def q73 : List ARes := [.t 2]
theorem fn73 : fnOf Tryd.prog 73 = some (c73, q73, 4) := by kernel_rfl
def c75r0 : List AOper := [
 ⟨(some 4), none, .mv (.c (.i .i64 0))⟩]
def c75r1 : List AOper := [
 ⟨(some 7), none, .mv (.t 0)⟩,
 ⟨(some 8), none, .call (.c (.fn 87 [] [])) [(.t 7)]⟩,
 ⟨(some 5), none, .mv (.t 8)⟩]
def c75r2 : List AOper := [
 ⟨(some 9), none, .mv (.t 1)⟩,
 ⟨(some 10), none, .call (.c (.fn 87 [] [])) [(.t 9)]⟩,
 ⟨(some 6), none, .mv (.t 10)⟩]
def c75r3 : List AOper := [
 ⟨(some 11), none, .mv (.t 5)⟩]
def c75r4 : List AOper := [
 ⟨(some 12), none, .mv (.t 6)⟩]
def c75r5 : List AOper := [
 ⟨(some 4), none, .mv (.c (.i .i64 0))⟩]
def c75r6 : List AOper := [
 ⟨(some 4), none, .mv (.c (.i .i64 (-1)))⟩]
def c75r7 : List AOper := [
 ⟨(some 13), none, .mv (.t 6)⟩]
def c75r8 : List AOper := [
 ⟨(some 4), none, .mv (.c (.i .i64 1))⟩]
def c75r9 : List AOper := [
 ⟨(some 14), none, .mv (.t 0)⟩,
 ⟨(some 15), none, .mv (.t 1)⟩,
 ⟨(some 16), none, .bin false .lss (.t 14) (.t 15)⟩]
def c75r10 : List AOper := [
 ⟨(some 4), none, .mv (.c (.i .i64 (-1)))⟩]
def c75r11 : List AOper := [
 ⟨(some 17), none, .mv (.t 0)⟩,
 ⟨(some 18), none, .mv (.t 1)⟩,
 ⟨(some 19), none, .bin false .gtr (.t 17) (.t 18)⟩]
def c75r12 : List AOper := [
 ⟨(some 4), none, .mv (.c (.i .i64 1))⟩]
def c75r13 : List AOper := [
 ⟨(some 4), none, .mv (.c (.i .i64 0))⟩]
abbrev c75 : AC := (.seq (.reg c75r0) (.seq (.reg c75r1) (.seq (.reg c75r2) (.seq (.seq (.reg c75r3) (.cond (.t 11) (.seq (.seq (.reg c75r4) (.cond (.t 12) (.seq (.reg c75r5) .ret) .skip)) (.seq (.reg c75r6) .ret)) .skip)) (.seq (.seq (.reg c75r7) (.cond (.t 13) (.seq (.reg c75r8) .ret) .skip)) (.seq (.seq (.reg c75r9) (.cond (.t 16) (.seq (.reg c75r10) .ret) .skip)) (.seq (.seq (.reg c75r11) (.cond (.t 19) (.seq (.reg c75r12) .ret) .skip)) (.seq (.reg c75r13) .ret))))))))
def q75 : List ARes := [.t 4]
theorem fn75 : fnOf Tryd.prog 75 = some (c75, q75, 20) := by kernel_rfl
def c76r0 : List AOper := [
 ⟨(some 2), none, .mv (.c (.i .i64 0))⟩]
def c76r1 : List AOper := [
 ⟨(some 3), none, .mv (.t 0)⟩,
 ⟨(some 4), none, .bin false .shr (.t 3) (.c (.i .u64 1))⟩,
 ⟨(some 5), none, .bin false .and (.t 4) (.c (.i .u64 6148914691236517205))⟩,
 ⟨(some 6), none, .mv (.t 0)⟩,
 ⟨(some 7), none, .bin false .and (.t 6) (.c (.i .u64 6148914691236517205))⟩,
 ⟨(some 8), none, .bin false .add (.t 5) (.t 7)⟩,
 ⟨(some 0), none, .mv (.t 8)⟩]
def c76r2 : List AOper := [
 ⟨(some 9), none, .mv (.t 0)⟩,
 ⟨(some 10), none, .bin false .shr (.t 9) (.c (.i .u64 2))⟩,
 ⟨(some 11), none, .bin false .and (.t 10) (.c (.i .u64 3689348814741910323))⟩,
 ⟨(some 12), none, .mv (.t 0)⟩,
 ⟨(some 13), none, .bin false .and (.t 12) (.c (.i .u64 3689348814741910323))⟩,
 ⟨(some 14), none, .bin false .add (.t 11) (.t 13)⟩,
 ⟨(some 0), none, .mv (.t 14)⟩]
def c76r3 : List AOper := [
 ⟨(some 15), none, .mv (.t 0)⟩,
 ⟨(some 16), none, .bin false .shr (.t 15) (.c (.i .u64 4))⟩,
 ⟨(some 17), none, .mv (.t 0)⟩,
 ⟨(some 18), none, .bin false .add (.t 16) (.t 17)⟩,
 ⟨(some 19), none, .bin false .and (.t 18) (.c (.i .u64 1085102592571150095))⟩,
 ⟨(some 0), none, .mv (.t 19)⟩]
def c76r4 : List AOper := [
 ⟨(some 20), none, .mv (.t 0)⟩,
 ⟨(some 21), none, .mv (.t 0)⟩,
 ⟨(some 22), none, .bin false .shr (.t 21) (.c (.i .u64 8))⟩,
 ⟨(some 23), none, .bin false .add (.t 20) (.t 22)⟩,
 ⟨(some 0), none, .mv (.t 23)⟩]
def c76r5 : List AOper := [
 ⟨(some 24), none, .mv (.t 0)⟩,
 ⟨(some 25), none, .mv (.t 0)⟩,
 ⟨(some 26), none, .bin false .shr (.t 25) (.c (.i .u64 16))⟩,
 ⟨(some 27), none, .bin false .add (.t 24) (.t 26)⟩,
 ⟨(some 0), none, .mv (.t 27)⟩]
def c76r6 : List AOper := [
 ⟨(some 28), none, .mv (.t 0)⟩,
 ⟨(some 29), none, .mv (.t 0)⟩,
 ⟨(some 30), none, .bin false .shr (.t 29) (.c (.i .u64 32))⟩,
 ⟨(some 31), none, .bin false .add (.t 28) (.t 30)⟩,
 ⟨(some 0), none, .mv (.t 31)⟩]
def c76r7 : List AOper := [
 ⟨(some 32), none, .mv (.t 0)⟩,
 ⟨(some 33), none, .conv .i64 (.t 32)⟩,
 ⟨(some 34), none, .bin false .and (.t 33) (.c (.i .i64 127))⟩,
 ⟨(some 2), none, .mv (.t 34)⟩]
abbrev c76 : AC := (.seq (.reg c76r0) (.seq (.reg c76r1) (.seq (.reg c76r2) (.seq (.reg c76r3) (.seq (.reg c76r4) (.seq (.reg c76r5) (.seq (.reg c76r6) (.seq (.reg c76r7) .ret))))))))
def q76 : List ARes := [.t 2]
theorem fn76 : fnOf Tryd.prog 76 = some (c76, q76, 35) := by kernel_rfl
def c77r0 : List AOper := [
 ⟨(some 3), none, .mv (.c (.b false))⟩]
def c77r1 : List AOper := [
 ⟨(some 4), none, .mv (.t 0)⟩,
 ⟨(some 5), none, .bin false .lss (.t 4) (.c (.i .i64 0))⟩,
 ⟨(some 6), none, .mv (.t 5)⟩,
 ⟨(some 7), (some (6, false)), .mv (.t 0)⟩,
 ⟨(some 8), (some (6, false)), .ld none (.t 1)⟩,
 ⟨(some 9), (some (6, false)), .bin false .geq (.t 7) (.t 8)⟩,
 ⟨(some 10), none, .pick (.t 6) (.c (.b true)) (.t 9)⟩,
 ⟨(some 3), none, .mv (.t 10)⟩]
abbrev c77 : AC := (.seq (.reg c77r0) (.seq (.reg c77r1) .ret))
def q77 : List ARes := [.t 3]
theorem fn77 : fnOf Tryd.prog 77 = some (c77, q77, 11) := by kernel_rfl
def c78r0 : List AOper := [
 ⟨(some 4), none, .mv (.c (.b false))⟩]
def c78r1 : List AOper := [
 ⟨(some 8), none, .mkm⟩,
 ⟨(some 5), none, .mv (.t 8)⟩]
def c78r2 : List AOper := [
 ⟨(some 9), none, .mv (.t 0)⟩,
 ⟨(some 10), none, .len (.t 9)⟩,
 ⟨(some 11), none, .mv (.c (.i .i64 0))⟩]
def c78r3 : List AOper := [
 ⟨(some 12), none, .bin false .lss (.t 11) (.t 10)⟩]
def c78r4 : List AOper := [
 ⟨(some 13), none, .ia 1 (.t 9) (.t 11)⟩,
 ⟨(some 14), none, .ld none (.t 13)⟩,
 ⟨(some 7), none, .mv (.t 14)⟩]
def c78r5 : List AOper := [
 ⟨(some 15), none, .mv (.t 5)⟩,
 ⟨(some 16), none, .mv (.t 1)⟩,
 ⟨(some 17), none, .mv (.t 7)⟩,
 ⟨(some 18), none, .call (.t 16) [(.t 17)]⟩,
 ⟨(some 19), none, .mlk none (.b false) false (.t 15) (.t 18)⟩]
def c78r6 : List AOper := [
 ⟨(some 4), none, .mv (.c (.b false))⟩]
def c78r7 : List AOper := [
 ⟨(some 20), none, .mv (.t 5)⟩,
 ⟨(some 21), none, .mv (.t 1)⟩,
 ⟨(some 22), none, .mv (.t 7)⟩,
 ⟨(some 23), none, .call (.t 21) [(.t 22)]⟩,
 ⟨none, none, .mup none (.t 20) (.t 23) (.c (.b true))⟩]
def c78r8 : List AOper := [
 ⟨(some 24), none, .bin false .add (.t 11) (.c (.i .i64 1))⟩,
 ⟨(some 11), none, .mv (.t 24)⟩]
abbrev c78b9 : AC := (.seq (.reg c78r3) (.seq (.cond (.t 12) .skip (.exit 0)) (.seq (.blk 1 (.seq (.reg c78r4) (.seq (.seq (.reg c78r5) (.cond (.t 19) (.seq (.reg c78r6) .ret) .skip)) (.reg c78r7)))) (.reg c78r8))))
def c78r10 : List AOper := [
 ⟨(some 4), none, .mv (.c (.b true))⟩]
abbrev c78 : AC := (.seq (.reg c78r0) (.seq (.reg c78r1) (.seq (.seq (.reg c78r2) (.blk 0 (.loop c78b9))) (.seq (.reg c78r10) .ret))))
def q78 : List ARes := [.t 4]
theorem fn78 : fnOf Tryd.prog 78 = some (c78, q78, 25) := by kernel_rfl
def c79r0 : List AOper := [
 ⟨(some 2), none, .mv (.c (.i .i64 0))⟩]
def c79r1 : List AOper := [
 ⟨(some 3), none, .mv (.t 0)⟩,
 ⟨(some 2), none, .mv (.t 3)⟩]
abbrev c79 : AC := (.seq (.reg c79r0) (.seq (.reg c79r1) .ret))
def q79 : List ARes := [.t 2]
theorem fn79 : fnOf Tryd.prog 79 = some (c79, q79, 4) := by kernel_rfl
def c80r0 : List AOper := [
 ⟨(some 2), none, .box (.t 0)⟩,
 ⟨(some 3), none, .box (.t 1)⟩,
 ⟨(some 4), none, .alloc [.i .i64 0, .i .i64 0, .i .i64 0, .i .i64 0, .i .i64 0]⟩,
 ⟨(some 5), none, .mv (.c (.i .i64 0))⟩]
def c80r1 : List AOper := [
 ⟨(some 9), none, .ld (some 17) (.t 2)⟩,
 ⟨(some 10), none, .bsl 17 [.i .i64 0, .i .i64 0, .i .i64 0, .i .i64 0, .i .i64 0, .i .i64 0, .i .i64 0, .i .i64 0, .i .i64 0, .i .i64 0, .i .i64 0, .i .i64 0, .i .i64 0, .i .i64 0, .i .i64 0, .i .i64 0, .i .i64 0] [(0, 17, (.t 9))]⟩,
 ⟨(some 11), none, .ld (some 6) (.t 3)⟩,
 ⟨(some 12), none, .bsl 6 [.i .i64 0, .i .i64 0, .i .i64 0, .i .i64 0, .i .i64 0, .i .i64 0] [(0, 6, (.t 11))]⟩,
 ⟨(some 13), none, .call (.c (.fn 40 [] [])) [(.t 10), (.t 12)]⟩,
 ⟨(some 6), none, .mv (.t 13)⟩]
def c80r2 : List AOper := [
 ⟨(some 14), none, .mv (.t 6)⟩,
 ⟨(some 15), none, .bin false .neq (.t 14) (.c (.i .i64 0))⟩]
def c80r3 : List AOper := [
 ⟨(some 16), none, .bld [.i .i64 0, .i .i64 0, .i .i64 0, .i .i64 0, .i .i64 0] []⟩,
 ⟨(some 17), none, .mv (.t 6)⟩,
 ⟨none, none, .sto (some 5) (.t 4) (.t 16)⟩,
 ⟨(some 5), none, .mv (.t 17)⟩]
def c80r4 : List AOper := [
 ⟨(some 19), none, .ld (some 17) (.t 2)⟩,
 ⟨(some 20), none, .ld (some 6) (.t 3)⟩,
 ⟨(some 21), none, .call (.c (.fn 46 [] [])) [(.t 19), (.t 20)]⟩,
 ⟨(some 18), none, .mv (.t 21)⟩,
 ⟨(some 22), none, .ext (.t 18) 0⟩,
 ⟨(some 23), none, .ext (.t 18) 1⟩,
 ⟨(some 7), none, .alloc [.i .i64 0, .i .i64 0, .i .i64 0, .i .i64 0, .i .i64 0]⟩,
 ⟨none, none, .sto (some 5) (.t 7) (.t 22)⟩,
 ⟨(some 8), none, .mv (.t 23)⟩]
def c80r5 : List AOper := [
 ⟨(some 24), none, .ld (some 5) (.t 7)⟩,
 ⟨none, none, .sto (some 5) (.t 4) (.t 24)⟩,
 ⟨(some 5), none, .mv (.c (.i .i64 0))⟩]
abbrev c80 : AC := (.seq (.reg c80r0) (.seq (.seq (.reg c80r1) (.seq (.reg c80r2) (.cond (.t 15) (.seq (.reg c80r3) .ret) .skip))) (.seq (.reg c80r4) (.seq (.reg c80r5) .ret))))
def q80 : List ARes := [.c 4 (some 5), .t 5]
theorem fn80 : fnOf Tryd.prog 80 = some (c80, q80, 25) := by kernel_rfl
def c81r0 : List AOper := [
 ⟨(some 2), none, .box (.t 0)⟩,
 ⟨(some 3), none, .box (.t 1)⟩,
 ⟨(some 4), none, .mv (.c (.b false))⟩,
 ⟨(some 5), none, .mv (.c (.i .i64 0))⟩]
def c81r1 : List AOper := [
 ⟨(some 9), none, .ld (some 17) (.t 2)⟩,
 ⟨(some 10), none, .ld (some 6) (.t 3)⟩,
 ⟨(some 11), none, .call (.c (.fn 88 [] [])) [(.t 9), (.t 10)]⟩,
 ⟨(some 8), none, .mv (.t 11)⟩,
 ⟨(some 12), none, .ext (.t 8) 0⟩,
 ⟨(some 13), none, .ext (.t 8) 1⟩,
 ⟨(some 6), none, .mv (.t 12)⟩,
 ⟨(some 7), none, .mv (.t 13)⟩]
def c81r2 : List AOper := [
 ⟨(some 14), none, .mv (.t 7)⟩,
 ⟨(some 15), none, .bin false .eql (.t 14) (.c (.i .i64 0))⟩,
 ⟨(some 16), none, .mv (.t 15)⟩,
 ⟨(some 17), (some (16, true)), .mv (.t 6)⟩,
 ⟨(some 18), (some (16, true)), .len (.t 17)⟩,
 ⟨(some 19), (some (16, true)), .bin false .eql (.t 18) (.c (.i .i64 0))⟩,
 ⟨(some 20), none, .pick (.t 16) (.t 19) (.c (.b false))⟩,
 ⟨(some 21), none, .mv (.t 7)⟩,
 ⟨(some 4), none, .mv (.t 20)⟩,
 ⟨(some 5), none, .mv (.t 21)⟩]
abbrev c81 : AC := (.seq (.reg c81r0) (.seq (.reg c81r1) (.seq (.reg c81r2) .ret)))
def q81 : List ARes := [.t 4, .t 5]
theorem fn81 : fnOf Tryd.prog 81 = some (c81, q81, 22) := by kernel_rfl
def c82r0 : List AOper := [
 ⟨(some 4), none, .mv (.c (.i .i64 0))⟩]
def c82r1 : List AOper := [
 ⟨(some 6), none, .mv (.t 0)⟩,
 ⟨(some 7), none, .len (.t 6)⟩,
 ⟨(some 8), none, .mv (.c (.i .i64 0))⟩]
def c82r2 : List AOper := [
 ⟨(some 9), none, .bin false .lss (.t 8) (.t 7)⟩]
def c82r3 : List AOper := [
 ⟨(some 10), none, .mv (.t 8)⟩,
 ⟨(some 5), none, .mv (.t 10)⟩]
def c82r4 : List AOper := [
 ⟨(some 11), none, .mv (.t 1)⟩,
 ⟨(some 12), none, .mv (.t 0)⟩,
 ⟨(some 13), none, .mv (.t 5)⟩,
 ⟨(some 14), none, .ia 1 (.t 12) (.t 13)⟩,
 ⟨(some 15), none, .ld none (.t 14)⟩,
 ⟨(some 16), none, .call (.t 11) [(.t 15)]⟩]
def c82r5 : List AOper := [
 ⟨(some 17), none, .mv (.t 5)⟩,
 ⟨(some 4), none, .mv (.t 17)⟩]
def c82r6 : List AOper := [
 ⟨(some 18), none, .bin false .add (.t 8) (.c (.i .i64 1))⟩,
 ⟨(some 8), none, .mv (.t 18)⟩]
abbrev c82b7 : AC := (.seq (.reg c82r2) (.seq (.cond (.t 9) .skip (.exit 0)) (.seq (.blk 1 (.seq (.reg c82r3) (.seq (.reg c82r4) (.cond (.t 16) (.seq (.reg c82r5) .ret) .skip)))) (.reg c82r6))))
def c82r8 : List AOper := [
 ⟨(some 4), none, .mv (.c (.i .i64 (-1)))⟩]
abbrev c82 : AC := (.seq (.reg c82r0) (.seq (.seq (.reg c82r1) (.blk 0 (.loop c82b7))) (.seq (.reg c82r8) .ret)))
def q82 : List ARes := [.t 4]
theorem fn82 : fnOf Tryd.prog 82 = some (c82, q82, 19) := by kernel_rfl
def c83r0 : List AOper := [
 ⟨(some 2), none, .mv (.c (.b false))⟩]
def c83r1 : List AOper := [
 ⟨(some 3), none, .mv (.t 0)⟩,
 ⟨(some 4), none, .call (.c (.fn 64 [] [])) [(.c (.i .i64 (-1000000))), (.t 3), (.c (.i .i64 1000000))]⟩,
 ⟨(some 5), none, .not (.t 4)⟩,
 ⟨(some 2), none, .mv (.t 5)⟩]
abbrev c83 : AC := (.seq (.reg c83r0) (.seq (.reg c83r1) .ret))
def q83 : List ARes := [.t 2]
theorem fn83 : fnOf Tryd.prog 83 = some (c83, q83, 6) := by kernel_rfl
def c84r0 : List AOper := [
 ⟨(some 2), none, .mv (.c (.sl 0 0 0 0))⟩]
def c84r1 : List AOper := [
 ⟨(some 4), none, .mv (.t 0)⟩,
 ⟨(some 5), none, .call (.c (.fn 42 [] [])) [(.t 4)]⟩,
 ⟨(some 3), none, .mv (.t 5)⟩]
def c84r2 : List AOper := [
 ⟨(some 6), none, .mv (.t 3)⟩,
 ⟨(some 7), none, .call (.c (.fn 89 [] [])) [(.t 6)]⟩]
def c84r3 : List AOper := [
 ⟨(some 8), none, .mv (.t 3)⟩,
 ⟨(some 2), none, .mv (.t 8)⟩]
abbrev c84 : AC := (.seq (.reg c84r0) (.seq (.reg c84r1) (.seq (.reg c84r2) (.seq (.reg c84r3) .ret))))
def q84 : List ARes := [.t 2]
theorem fn84 : fnOf Tryd.prog 84 = some (c84, q84, 9) := by kernel_rfl
def c85r0 : List AOper := [
 ⟨(some 1), none, .box (.t 0)⟩,
 ⟨(some 2), none, .mv (.c (.nilf))⟩]
def c85r1 : List AOper := [
 ⟨(some 3), none, .mkf 90 [] [(.t 1)]⟩,
 ⟨(some 2), none, .mv (.t 3)⟩]
abbrev c85 : AC := (.seq (.reg c85r0) (.seq (.reg c85r1) .ret))
def q85 : List ARes := [.t 2]
theorem fn85 : fnOf Tryd.prog 85 = some (c85, q85, 4) := by kernel_rfl
def c86r0 : List AOper := [
 ⟨(some 4), none, .ld none (.t 1)⟩,
 ⟨(some 5), none, .len (.t 4)⟩,
 ⟨(some 6), none, .bin false .sub (.t 5) (.c (.i .i64 1))⟩,
 ⟨(some 3), none, .mv (.t 6)⟩]
def c86r1 : List AOper := [
 ⟨(some 7), none, .mv (.t 3)⟩,
 ⟨(some 8), none, .bin false .geq (.t 7) (.c (.i .i64 0))⟩]
def c86r2 : List AOper := [
 ⟨(some 11), none, .mv (.t 0)⟩,
 ⟨(some 12), none, .mv (.t 3)⟩,
 ⟨(some 13), none, .ld none (.t 1)⟩,
 ⟨(some 14), none, .mv (.t 3)⟩,
 ⟨(some 15), none, .ia 1 (.t 13) (.t 14)⟩,
 ⟨(some 16), none, .ld none (.t 15)⟩,
 ⟨(some 17), none, .call (.t 11) [(.t 12), (.t 16)]⟩,
 ⟨(some 18), none, .not (.t 17)⟩]
def c86r3 : List AOper := [
 ⟨(some 9), none, .mv (.t 3)⟩,
 ⟨(some 10), none, .bin false .sub (.t 9) (.c (.i .i64 1))⟩,
 ⟨(some 3), none, .mv (.t 10)⟩]
abbrev c86b4 : AC := (.seq (.seq (.reg c86r1) (.cond (.t 8) .skip (.exit 0))) (.seq (.blk 1 (.seq (.reg c86r2) (.cond (.t 18) .ret .skip))) (.reg c86r3)))
abbrev c86 : AC := (.seq (.reg c86r0) (.blk 0 (.loop c86b4)))
def q86 : List ARes := []
theorem fn86 : fnOf Tryd.prog 86 = some (c86, q86, 19) := by kernel_rfl
def c87r0 : List AOper := [
 ⟨(some 2), none, .mv (.c (.b false))⟩]
def c87r1 : List AOper := [
 ⟨(some 3), none, .mv (.t 0)⟩,
 ⟨(some 4), none, .mv (.t 0)⟩,
 ⟨(some 5), none, .bin false .neq (.t 3) (.t 4)⟩,
 ⟨(some 2), none, .mv (.t 5)⟩]
abbrev c87 : AC := (.seq (.reg c87r0) (.seq (.reg c87r1) .ret))
def q87 : List ARes := [.t 2]
theorem fn87 : fnOf Tryd.prog 87 = some (c87, q87, 6) := by kernel_rfl
def c88r0 : List AOper := [
 ⟨(some 2), none, .box (.t 0)⟩,
 ⟨(some 3), none, .box (.t 1)⟩,
 ⟨(some 4), none, .mv (.c (.sl 0 0 0 0))⟩,
 ⟨(some 5), none, .mv (.c (.i .i64 0))⟩]
def c88r1 : List AOper := [
 ⟨(some 7), none, .ld (some 17) (.t 2)⟩,
 ⟨(some 8), none, .bsl 17 [.i .i64 0, .i .i64 0, .i .i64 0, .i .i64 0, .i .i64 0, .i .i64 0, .i .i64 0, .i .i64 0, .i .i64 0, .i .i64 0, .i .i64 0, .i .i64 0, .i .i64 0, .i .i64 0, .i .i64 0, .i .i64 0, .i .i64 0] [(0, 17, (.t 7))]⟩,
 ⟨(some 9), none, .ld (some 6) (.t 3)⟩,
 ⟨(some 10), none, .bsl 6 [.i .i64 0, .i .i64 0, .i .i64 0, .i .i64 0, .i .i64 0, .i .i64 0] [(0, 6, (.t 9))]⟩,
 ⟨(some 11), none, .call (.c (.fn 40 [] [])) [(.t 8), (.t 10)]⟩,
 ⟨(some 6), none, .mv (.t 11)⟩]
def c88r2 : List AOper := [
 ⟨(some 12), none, .mv (.t 6)⟩,
 ⟨(some 13), none, .bin false .neq (.t 12) (.c (.i .i64 0))⟩]
def c88r3 : List AOper := [
 ⟨(some 14), none, .mv (.t 6)⟩,
 ⟨(some 4), none, .mv (.c (.sl 0 0 0 0))⟩,
 ⟨(some 5), none, .mv (.t 14)⟩]
def c88r4 : List AOper := [
 ⟨(some 15), none, .ld (some 17) (.t 2)⟩,
 ⟨(some 16), none, .ld (some 6) (.t 3)⟩,
 ⟨(some 17), none, .call (.c (.fn 47 [] [])) [(.t 15), (.t 16)]⟩,
 ⟨(some 4), none, .mv (.t 17)⟩,
 ⟨(some 5), none, .mv (.c (.i .i64 0))⟩]
abbrev c88 : AC := (.seq (.reg c88r0) (.seq (.seq (.reg c88r1) (.seq (.reg c88r2) (.cond (.t 13) (.seq (.reg c88r3) .ret) .skip))) (.seq (.reg c88r4) .ret)))
def q88 : List ARes := [.t 4, .t 5]
theorem fn88 : fnOf Tryd.prog 88 = some (c88, q88, 18) := by kernel_rfl
def c90r0 : List AOper := [
 ⟨(some 5), none, .ld none (.t 1)⟩,
 ⟨(some 6), none, .len (.t 5)⟩,
 ⟨(some 7), none, .mv (.c (.i .i64 0))⟩]
def c90r1 : List AOper := [
 ⟨(some 8), none, .bin false .lss (.t 7) (.t 6)⟩]
def c90r2 : List AOper := [
 ⟨(some 9), none, .ia 1 (.t 5) (.t 7)⟩,
 ⟨(some 10), none, .ld none (.t 9)⟩,
 ⟨(some 4), none, .mv (.t 10)⟩]
def c90r3 : List AOper := [
 ⟨(some 11), none, .mv (.t 0)⟩,
 ⟨(some 12), none, .mv (.t 4)⟩,
 ⟨(some 13), none, .call (.t 11) [(.t 12)]⟩,
 ⟨(some 14), none, .not (.t 13)⟩]
def c90r4 : List AOper := [
 ⟨(some 15), none, .bin false .add (.t 7) (.c (.i .i64 1))⟩,
 ⟨(some 7), none, .mv (.t 15)⟩]
abbrev c90b5 : AC := (.seq (.reg c90r1) (.seq (.cond (.t 8) .skip (.exit 0)) (.seq (.blk 1 (.seq (.reg c90r2) (.seq (.reg c90r3) (.cond (.t 14) .ret .skip)))) (.reg c90r4))))
abbrev c90 : AC := (.seq (.reg c90r0) (.blk 0 (.loop c90b5)))
def q90 : List ARes := []
theorem fn90 : fnOf Tryd.prog 90 = some (c90, q90, 16) := by kernel_rfl
end Go.Proofs.YtjaihaccehaicaaDoor
set_option linter.unusedVariables false
set_option linter.unusedSimpArgs false
namespace Go.Am
variable {dfs : List Deferred}
theorem okG_hb {P : Program} {tok tok' : Nat} {hb hb' : AH} {o : AOper} (hv : o.op.isVal = true) {st : St} {h : AH} {v : AV} (e : okG P tok hb o st h v none) : okG P tok' hb' o st h v none := by
 unfold okG at *
 cases hg : o.g with
 | none => simp only [hg] at e ⊢; cases hop : o.op <;> simp only [hop, AOp.isVal, Bool.false_eq_true] at hv <;> simp only [hop, okA, AOp.isAl, if_true, if_false, Bool.false_eq_true] at e ⊢ <;> exact e
 | some sw =>
   obtain ⟨s, want⟩ := sw
   simp only [hg] at e ⊢
   split at e
   ·cases hop : o.op <;> simp only [hop, AOp.isVal, Bool.false_eq_true] at hv <;> simp only [hop, okC, AOp.isVal, if_true, if_false, Bool.false_eq_true] at e ⊢ <;> exact e
   ·exact e.elim
theorem val_cal {o : AOp} (h : o.isVal = true) : o.cal = false := by cases o <;> simp [AOp.isVal, AOp.cal] at h ⊢
theorem okG_stepU {P : Program} {tok tok' : Nat} {hb : AH} {o : AOper} (hv : o.op.isVal = true) {st st' : St} {h h' : AH} (e : stepU tok o st h = some (st', h')) : ∃ v, st' = put o.d v st ∧ h' = h ∧ okG P tok' hb o st h v none := by
 obtain ⟨d, og, op⟩ := o
 cases og with
 | none =>
   simp only [stepU] at e
   cases op <;> simp only [AOp.isVal, Bool.false_eq_true] at hv <;> simp only [stepA, AOp.isAl, if_false, Bool.false_eq_true, Option.map_eq_some_iff, Prod.mk.injEq] at e <;>
    (obtain ⟨v, hv, rfl, rfl⟩ := e; refine ⟨v, rfl, rfl, ?_⟩; simp only [okG, okA, AOp.isAl, if_false, Bool.false_eq_true]; exact ⟨trivial, hv⟩)
 | some sw =>
   obtain ⟨s, want⟩ := sw
   simp only [stepU] at e
   cases hq : guardOf (st.get s) want with
   | none => simp only [hq, reduceCtorEq] at e
   | some g =>
     simp only [hq] at e
     simp only at hv
     rw [if_pos hv] at e
     cases g with
     | true =>
       simp only [if_true, Option.map_eq_some_iff, Prod.mk.injEq] at e
       obtain ⟨v, hv1, rfl, rfl⟩ := e
       refine ⟨_, rfl, rfl, ?_⟩
       simp only [okG, hq]
       cases op <;> simp only [AOp.isVal, Bool.false_eq_true] at hv <;> simp only [okC, AOp.isVal, if_true] <;> exact ⟨trivial, _, rfl, fun _ => hv1⟩
     | false =>
       simp only [if_false, Bool.false_eq_true, Option.some.injEq, Prod.mk.injEq] at e
       obtain ⟨rfl, rfl⟩ := e
       refine ⟨_, rfl, rfl, ?_⟩
       simp only [okG, hq]
       cases op <;> simp only [AOp.isVal, Bool.false_eq_true] at hv <;> simp only [okC, AOp.isVal, if_true] <;> exact ⟨trivial, _, rfl, fun q => nomatch q⟩
def AOper.lt (o : AOper) : Bool := o.op.isVal || (o.op.cal && o.g.isNone)
section
variable {P : Program} {N : Nat} {Q : Exit → St → AH → Prop} {st0 : St} {h0 hT : AH} {w0 : World} {ι0 : Inj} {base : Nat} {ops : Array Oper} {aops : List AOper} {dep : Nat → Nat → Prop} {m : Nat}
variable {QQ : Exit → Act → World → Prop} {K : St → AH → Prop}
end
section
variable {P : Program} {N : Nat} {Q : Exit → St → AH → Prop} {K : St → AH → Prop} {st : St} {h : AH}
end
end Go.Am
set_option linter.unusedVariables false
set_option linter.unusedSimpArgs false
namespace Go.Am
theorem pure_callF {P : Program} {f : Nat} {args : List AV} {h : AH} {R : AV → Prop} (c : ∀ h' : AH, (∀ t, h'.row t = h.row t) → h'.nx = h.nx → ACalls P f args h' fun r h'' => ∃ v, R v ∧ Ends v r h'') (hp : ∀ r, R r → r.plain = true) :
 ACalls P f args h fun r h' => R r ∧ h' = h :=
 pure_call (R := R) (fun h' hr hn => acalls_frz ((c h' hr hn).mono fun r h'' ⟨v, hv, h3, F⟩ => ⟨v, h3, F, hv⟩)) hp
theorem pure_callV {P : Program} {f : Nat} {args : List AV} {h : AH} {v : AV} (hp : v.plain = true) (c : ∀ h' : AH, (∀ t, h'.row t = h.row t) → h'.nx = h.nx → ACalls P f args h' (Ends v)) :
 ACalls P f args h fun r h' => r = v ∧ h' = h :=
 pure_callF (R := fun r => r = v) (fun h' hr hn => (c h' hr hn).mono fun r h'' e => ⟨v, rfl, e⟩) fun r e => by rw [e]; exact hp
structure Upd (t : Nat) (cs : List AV) (h h' : AH) : Prop where
 m : h'.m t = some (.cells true cs)
 keep : ∀ s, s < h.nx → s ≠ t → h'.m s = h.m s
 nx : h.nx ≤ h'.nx
theorem Upd.ne {t : Nat} {cs : List AV} {h h' : AH} (u : Upd t cs h h') (ok : h.ok) {s : Nat} {b : Blk} (hs : h.m s = some b) (hn : s ≠ t) : h'.m s = some b := by rw [u.keep s (ok _ _ hs) hn]; exact hs
theorem Upd.refl {t : Nat} {cs : List AV} {h : AH} (hm : h.m t = some (.cells true cs)) : Upd t cs h h := ⟨hm, fun _ _ _ => rfl, Nat.le_refl _⟩
def EndsW (v : AV) (R : AH → Prop) (r : AV) (h : AH) : Prop := ∃ h', FrzR h r h' v ∧ R h'
theorem w_fn {P : Program} {f : Nat} {ac : AC} {ars : List ARes} {N : Nat} (hf : fnOf P f = some (ac, ars, N)) {args : List AV} {h : AH} {v : AV} {R : AH → Prop} (hN : args.length ≤ N)
 (hw : h.ok → 0 < h.nx → W P N ac (athen (Post ars (EndsW v R)) (Fin (Post ars (EndsW v R)))) (initSt args) h) : ACalls P f args h fun r h' => r = v ∧ R h' :=
 acalls_frz ((a_fn hf hN hw).mono fun r h' ⟨h'', F, hR⟩ => ⟨v, h'', F, rfl, hR⟩)
theorem endsW {v : AV} {R : AH → Prop} {h : AH} (hR : R h) : EndsW v R v h := ⟨h, .done, hR⟩
end Go.Am
set_option linter.unusedVariables false
set_option linter.unusedSimpArgs false
namespace Go.Am
def setPs : St → List Nat → List AV → St
 | st, p :: ps, v :: vs => setPs ((p, v) :: st) ps vs
 | st, _, _ => st
def recR (P : Program) (N : Nat) (st : St) (ps : List Nat) (aa bb : AC) (s : LoopState) : Inj → Loop → Prop := fun ι L =>
 L.state = s ∧ L.pending = none ∧ L.params.toList = ps ∧ (∀ p ∈ ps, p < N) ∧ ARel N [] ι st { tmps := L.tmps, defers := [] } ∧ CodeR P N L.assign aa ∧ CodeR P N L.body bb
abbrev recB (P : Program) (N : Nat) (st : St) (ps : List Nat) (aa bb : AC) (s : LoopState) : Blk := .raw (recR P N st ps aa bb s)
def YW (P : Program) (t : Nat) (args : List AV) (h : AH) (K : AH → Prop) : Prop :=
 ∃ N st ps aa bb, h.m t = some (recB P N st ps aa bb .ready) ∧ args.length = ps.length ∧
   W P N aa (athen (fun st1 h1 => h1.m t = some (recB P N st ps aa bb .ready) ∧
     W P N bb (athen (fun _ h2 => h2.m t = some (recB P N st ps aa bb .busy) ∧ K (h2.set t (recB P N st ps aa bb .ready))) (fun _ _ _ => False)) st1 (h1.set t (recB P N st ps aa bb .busy))) (fun _ _ _ => False)) (setPs st ps args) h
theorem ARel.setPs {N : Nat} {dfs : List Deferred} {ι : Inj} : ∀ {ps : List Nat} {st : St} {tmps : Array Value} {args : List AV} {vs : List Value}, ARel N dfs ι st { tmps := tmps, defers := dfs } → (∀ p ∈ ps, p < N) → args.length = ps.length → VRels ι args vs →
 ARel N dfs ι (Am.setPs st ps args) { tmps := (ps.zip vs).foldl (fun t (p, v) => t.setIfInBounds p v) tmps, defers := dfs }
 | [], st, tmps, args, vs, ar, _, hl, _ => by
   have : args = [] := List.length_eq_zero_iff.1 (by simpa using hl)
   subst this
   exact ar
 | p :: ps, st, tmps, [], vs, ar, _, hl, _ => by simp at hl
 | p :: ps, st, tmps, x :: args, vs, ar, hp, hl, hv => by
   simp only [VRels] at hv
   obtain ⟨v, r, rfl, h1, h2⟩ := hv
   have a1 := ar.put (hp p (by simp)) h1
   exact ARel.setPs (ps := ps) (st := (p, x) :: st) (tmps := tmps.setIfInBounds p v) a1 (fun q hq => hp q (by simp [hq])) (by simpa using hl) h2
section
variable {P : Program} {N : Nat} {dfs : List Deferred} {ι : Inj} {st : St} {h : AH} {a : Act} {w : World}
theorem recB_get (wr : WRel ι h w) {t : Nat} {N' : Nat} {st' : St} {ps : List Nat} {aa bb : AC} {s : LoopState} (hm : h.m t = some (recB P N' st' ps aa bb s)) :
 ∃ (l : Loc) (L : Loop), ι t = some l ∧ w.heap[l.b]? = some (.loop L) ∧ L.state = s ∧ L.pending = none ∧ L.params.toList = ps ∧ (∀ p ∈ ps, p < N') ∧ ARel N' [] ι st' { tmps := L.tmps, defers := [] } ∧ CodeR P N' L.assign aa ∧ CodeR P N' L.body bb := by
 have hb := (wr.blk t _ hm).2
 simp only [BRel] at hb
 obtain ⟨l, L, h1, h2, h4⟩ := hb
 exact ⟨l, L, h1, h2, h4 ι (Inj.le_refl ι)⟩
theorem recB_put (wr : WRel ι h w) {t : Nat} {N' : Nat} {st' : St} {ps : List Nat} {aa bb : AC} {s : LoopState} (hm : h.m t = some (recB P N' st' ps aa bb s)) {l : Loc} {L : Loop} (hl : ι t = some l) (hL : w.heap[l.b]? = some (.loop L)) (s' : LoopState) :
 WRel ι (h.set t (recB P N' st' ps aa bb s')) (w.putObj l.b (.loop { L with state := s', pending := none })) ∧ Ext ι h w ι (h.set t (recB P N' st' ps aa bb s')) (w.putObj l.b (.loop { L with state := s', pending := none })) := by
 obtain ⟨l', L', q1, q2, -, -, r3, r4, r5, r6, r7⟩ := recB_get wr hm
 rw [hl] at q1; cases q1
 rw [hL] at q2; cases q2
 have hlt : l.b < w.heap.size := (Array.getElem?_eq_some_iff.1 hL).1
 have k1 : (w.putObj l.b (.loop { L with state := s', pending := none })).heap.size = w.heap.size := World.putObj_size
 have k2 : ∀ b, b ≠ l.b → (w.putObj l.b (.loop { L with state := s', pending := none })).heap[b]? = w.heap[b]? := fun b hb => World.putObj_heap_other hb
 have hbr : BRel ι (w.putObj l.b (.loop { L with state := s', pending := none })) t (recB P N' st' ps aa bb s') := by
  simp only [BRel]
  exact ⟨l, _, hl, World.putObj_heap_same hlt, fun ι' le => ⟨rfl, rfl, r3, r4, r5.mono le, r6, r7⟩⟩
 exact ⟨wr.refit hm rfl hl k1 k2 hbr, (Ext.refl ι h w).refit hm rfl hl k1 k2 (Nat.le_refl _) rfl rfl rfl⟩
theorem yld_in {ro : Option Nat} {o : Oper} {c : Call} {fo : Operand} (hop : o.op = .call c) (hc : c.callee = .value fo) {af : AX} {axs : List AX} (hfx : toX fo = some af) (hxs : toXs c.args = some axs)
 (ar : ARel N dfs ι st a) (wr : WRel ι h w) {t : Nat} (hf : af.val st = .fy t) {K : AH → Prop} (y : YW P t (axs.map (AX.val st)) h K) {next : Act → World → Prop} {Q : Exit → Act → World → Prop}
 (hn : ∀ w' h' ι', K h' → WRel ι' h' w' → Ext ι h w ι' h' w' → next (a.put o.dst (.bool true)) w') : o.wpIn (RF ro) 0 P a w next Q := by
 obtain ⟨N', st', ps, aa, bb, hm, hlen, hw⟩ := y
 obtain ⟨l, L, hl, hL, s1, s2, s3, s4, s5, s6, s7⟩ := recB_get wr hm
 have rf := toX_sound ar hfx
 rw [hf] at rf
 simp only [VRel] at rf
 obtain ⟨l', hl', hv⟩ := rf
 rw [hl] at hl'; cases hl'
 have qa := toXs_sound ar (xs := c.args.toList) hxs
 have hsz : (c.args.map a.eval).size = L.params.size := by
  have e1 := qa.length
  have e2 : L.params.size = ps.length := by rw [← s3]; simp
  rw [e2, ← hlen]
  simpa using e1.symm
 have hrun : (o.semAt (RF ro).round a.eval).run P w = .ok (.round l.b L.fn ((L.params.zip (c.args.map a.eval)).foldl (fun tmps (t, a) => tmps.setIfInBounds t a) L.tmps) L.assign L.body) w := by
  rw [Oper.semAt_eq _ _ _ (fun c' => by rw [hop]; exact fun e => by cases e)]
  have hy := run_yield (P := P) (args := c.args.map a.eval) hL hsz
  simp [execOp, hop, resolve, hc, hv, Deferred.ofValue, invoke, hy]
 refine ⟨fun _ _ => trivial, ?_⟩
 rw [hrun, Oper.uponIn_round]
 refine ⟨fun q => by simp [RF, Fence.wide] at q, ?_⟩
 have tm : (L.params.zip (c.args.map a.eval)).foldl (fun tmps (t, a) => tmps.setIfInBounds t a) L.tmps = (ps.zip (c.args.toList.map a.eval)).foldl (fun t (p, v) => t.setIfInBounds p v) L.tmps := by
  rw [← Array.foldl_toList, Array.toList_zip, Array.toList_map, s3]
 have ar0 := ARel.setPs (dfs := []) s5 s4 hlen qa
 rw [← tm] at ar0
 have lt := (wr.blk t _ hm).1
 refine roundIn_of_wpIn (F := RF ro) trivial (wpIn_mono (hw _ s6 [] ι _ w ar0 wr (some l.b)) fun e a1 w1 q => ?_)
 obtain ⟨st1, h1, ι1, q, ar1, wr1, x1⟩ := q
 cases e with
 | normal =>
   obtain ⟨hm1, hw1⟩ := q
   obtain ⟨l1, L1, p1, p2, p3, p4, p5, p6, p7, p8, p9⟩ := recB_get wr1 hm1
   have : l1 = l := by rw [x1.old t lt, hl] at p1; exact (Option.some.inj p1).symm
   subst this
   obtain ⟨wr2, x2⟩ := recB_put wr1 hm1 p1 p2 .busy
   have eb : ({ L1 with state := .busy, pending := none } : Loop) = { L1 with state := .busy } := by rw [← p4]
   rw [eb] at wr2 x2
   refine ⟨_, run_beginRound p2 p3, wpIn_mono (hw1 _ s7 [] ι1 a1 _ ar1 wr2 (some l1.b)) fun e a2 w2 q => ?_⟩
   obtain ⟨st2, h2, ι2, q, ar2, wr3, x3⟩ := q
   cases e with
   | normal =>
     obtain ⟨hm2, hK⟩ := q
     obtain ⟨l2, L2, o1, o2, o3, o4, -⟩ := recB_get wr3 hm2
     have lt1 := (wr1.blk t _ hm1).1
     have : l2 = l1 := by rw [x3.old t lt1, p1] at o1; exact (Option.some.inj o1).symm
     subst this
     obtain ⟨wr4, x4⟩ := recB_put wr3 hm2 o1 o2 .ready
     exact ⟨_, _, run_endRound none o2, hn _ _ _ hK wr4 (((x1.trans x2).trans x3).trans x4)⟩
   | _ => exact q.elim
 | _ => exact q.elim
end
theorem wpOp_in {P : Program} {Q : Exit → Act → World → Prop} {ops : Array Oper} (hd : ∀ (i : Nat) (o : Oper), ops[i]? = some o → ∀ c, o.op ≠ .defer c) (hl : ¬ LetsOut Q) {ro : Option Nat} {i : Nat} {K K' : Act → World → Prop} {a : Act} {w : World} (hn : ∀ a w, K a w → K' a w)
 (h : wpOp P ops Q i K a w) : wpOpIn (RF ro) 0 P ops Q i K' a w := by
 unfold wpOp at h
 unfold wpOpIn
 cases ho : ops[i]? with
 | none => rw [ho] at h; exact hn _ _ h
 | some o =>
   rw [ho] at h
   simp only at h ⊢
   split
   ·rename_i q
    rw [if_pos q] at h
    refine ⟨fun _ _ => trivial, ?_⟩
    rw [Oper.semAt_eq _ _ _ (hd i o ho)]
    exact upon_in hn (h.resolve_right fun z => hl z.2)
   ·rename_i q
    rw [if_neg q] at h
    exact ⟨fun _ _ => trivial, hn _ _ h⟩
section
variable {P : Program} {N : Nat} {dfs : List Deferred} {Q : Exit → St → AH → Prop} {K : St → AH → Prop} {st : St} {h : AH}
structure OpsR (P : Program) (N : Nat) (ops : Array Oper) (aops : List AOper) : Prop where
 len : aops.length = ops.size
 get : ∀ (i : Nat) (o : Oper), ops[i]? = some o → ∃ ao, aops[i]? = some ao ∧ AOper.of P ops o = some ao ∧ ao.d = o.dst ∧ (∀ x, o.dst = some x → x < N) ∧ ∀ s b, ao.g = some (s, b) → s < N
theorem opersOf_R {ops : Array Oper} {aops : List AOper} (hof : opersOf P N ops = some aops) : OpsR P N ops aops := by
 unfold opersOf at hof
 simp only [Option.bind_eq_bind, Option.bind_eq_some_iff] at hof
 obtain ⟨l, hl, hof⟩ := hof
 split at hof
 ·rename_i hall
  simp only [Option.some.injEq] at hof
  subst hof
  have hlen := mapM_length hl
  refine ⟨by simpa using hlen, fun i o ho => ?_⟩
  have gen : ∀ (xs : List Oper) (ys : List AOper), xs.mapM (AOper.of P ops) = some ys → ∀ (i : Nat) (o : Oper), xs[i]? = some o → ∃ ao, ys[i]? = some ao ∧ AOper.of P ops o = some ao := by
   intro xs
   induction xs with
   | nil => intro ys h i o ho; simp at ho
   | cons x xs ih =>
     intro ys h i o ho
     simp only [List.mapM_cons, Option.pure_def, Option.bind_eq_bind, Option.bind_eq_some_iff, Option.some.injEq] at h
     obtain ⟨y, hy, zs, hzs, rfl⟩ := h
     cases i with
     | zero => simp at ho; subst ho; exact ⟨y, rfl, hy⟩
     | succ i => simpa using ih zs hzs i o (by simpa using ho)
  obtain ⟨ao, h1, h2⟩ := gen _ _ hl i o (by simpa using ho)
  have hfit := List.all_eq_true.1 hall ao (List.mem_of_getElem? h1)
  unfold AOper.fits at hfit
  have hd : ao.d = o.dst := by
   have h2 := h2
   unfold AOper.of at h2
   simp only [Option.bind_eq_bind, Option.bind_eq_some_iff] at h2
   obtain ⟨op, _, hof⟩ := h2
   split at hof
   ·cases hof; rfl
   ·split at hof
    ·cases hof; rfl
    ·cases hof
  refine ⟨ao, h1, h2, hd, fun x hx => ?_, fun s b hs => ?_⟩
  ·rw [← hd] at hx; rw [hx] at hfit; simp at hfit; exact hfit.1
  ·rw [hs] at hfit; simp at hfit; exact hfit.2
 ·cases hof
theorem yld_prefix {ι0 : Inj} {h0 : AH} {w0 : World} {base : Nat} {ops : Array Oper} {aops : List AOper} (hof : opersOf P N ops = some aops) {QQ : Exit → Act → World → Prop} (hl : ¬ LetsOut QQ) {ro : Option Nat} {n r : Nat} (hnr : n + r = ops.size) {K1 : St → AH → Prop}
 (hK : ∀ st h ι a w, K1 st h → Inv N dfs ι0 h0 w0 base ops.size (fun j => n ≤ j) st h a w ι → wpOpsIn (RF ro) 0 P ops QQ (List.range' n r) a w) :
 ∀ (m i : Nat), i + m = n → ∀ (st : St) (h : AH) (ι : Inj) (a : Act) (w : World), Inv N dfs ι0 h0 w0 base ops.size (fun j => i ≤ j) st h a w ι → evOps P base ((aops.take n).drop i) i st h K1 → wpOpsIn (RF ro) 0 P ops QQ (List.range' i (m + r)) a w
 | 0, i, hi, st, h, ι, a, w, I, e => by
   have ei : i = n := by omega
   subst ei
   have : (aops.take i).drop i = [] := List.drop_eq_nil_of_le (by rw [List.length_take]; omega)
   rw [this] at e
   rw [Nat.zero_add]
   exact hK st h ι a w e I
 | m + 1, i, hi, st, h, ι, a, w, I, e => by
   have R := opersOf_R hof
   have hlt : i < ops.size := by omega
   obtain ⟨ao, hao, h2, hd, f1, f2⟩ := R.get i ops[i] (by simp [hlt])
   have hil : i < (aops.take n).length := by rw [List.length_take, R.len]; omega
   rw [List.drop_eq_getElem_cons hil] at e
   have : (aops.take n)[i] = ao := by
    have q := (List.getElem?_eq_some_iff.1 hao).2
    simpa using q
   rw [this] at e
   simp only [evOps] at e
   rw [show m + 1 + r = (m + r) + 1 by omega, List.range'_succ, wpOpsIn_cons]
   refine wpOp_in (opersOf_nd hof) hl ?_ (evG_wpOp (Q := QQ) (o := ops[i]) (by simp [hlt]) h2 f1 f2 hlt (Nat.le_refl i) I e)
   rintro a' w' ⟨st', h', ι', k, I'⟩
   exact yld_prefix hof hl hnr hK m (i + 1) (by omega) st' h' ι' a' w' ⟨I'.ar, I'.wr, I'.ex, fun j hj hf => I'.fr j hj ⟨by omega, by omega⟩, I'.nx, I'.b0, I'.b1⟩ k
theorem awp_yld {id : Nat} {ops : Array Oper} {aops : List AOper} (hof : opersOf P N ops = some aops) {n : Nat} {d : Option Nat} {f : AX} {args : List AX} (hn : aops[n]? = some ⟨d, none, .call f args⟩)
 (e : evOps P h.nx (aops.take n) 0 st { h with nx := h.nx + aops.length } fun st1 h1 => ∃ t, f.val st1 = .fy t ∧ YW P t (args.map (AX.val st1)) h1 fun h2 => evOps P h.nx (aops.drop (n + 1)) (n + 1) (put d (.b true) st1) h2 fun st h => Q .normal st h) :
 Awp P N (.region id ops false) Q st h := fun dfs ι a w ar wr => by
 have R := opersOf_R hof
 have hlen := R.len
 have hn' : n < ops.size := by rw [← hlen]; exact (List.getElem?_eq_some_iff.1 hn).1
 refine wp_mono (Q := Lift N dfs ι h w (nrm Q)) (fun ro => wpIn_region ?_) nrm_lift
 have nl : ¬ LetsOut (Lift N dfs ι h w (nrm Q)) := nrm_lets (Q := Q)
 have hfr : ∀ j, j < ops.size → ι (h.nx + j) = none := fun j hj => by
  cases hq : ι (h.nx + j) with
  | none => rfl
  | some l => have := (wr.lt _ l hq).1; omega
 rw [List.range_eq_range', show ops.size = n + (ops.size - n) by omega]
 refine yld_prefix (dfs := dfs) (ι0 := ι) (h0 := h) (w0 := w) (base := h.nx) hof nl (n := n) (r := ops.size - n) (by omega) ?_ n 0 (by omega) st { h with nx := h.nx + aops.length } ι a w
  ⟨ar, wr.bump _, (Ext.refl ι h w).bump _, fun j hj hf => hfr j hj, by simp [hlen], Nat.le_refl _, wr.pos⟩ (by simpa using e)
 rintro st1 h1 ι1 a1 w1 ⟨t, hf, y⟩ I
 obtain ⟨r, hr⟩ : ∃ r, ops.size - n = r + 1 := ⟨ops.size - n - 1, by omega⟩
 rw [hr, List.range'_succ, wpOpsIn_cons]
 obtain ⟨ao, hao, h2, hd, f1, f2⟩ := R.get n ops[n] (by simp [hn'])
 rw [hn] at hao; cases hao
 have h2' := h2
 unfold AOper.of at h2
 simp only [Option.bind_eq_bind, Option.bind_eq_some_iff] at h2
 obtain ⟨op, hop, h2⟩ := h2
 have hR := of_R hop
 have hg : ops[n].guard = none ∧ op = .call f args ∧ d = ops[n].dst := by
  split at h2
  ·rename_i hg; cases h2; exact ⟨hg, rfl, rfl⟩
  ·split at h2
   ·cases h2
   ·cases h2
 obtain ⟨hg, rfl, rfl⟩ := hg
 unfold wpOpIn
 have e1 : ops[n]? = some ops[n] := by simp [hn']
 rw [e1]
 have hwant : Region.wanted ops[n] (yielded ops a1.tmps) = true := by simp [Region.wanted, hg]
 simp only [hwant, if_true]
 generalize hopp : ops[n].op = oo at hR
 cases hR with
 | @call c cf _ _ hc hfx hxs =>
   refine yld_in hopp hc hfx hxs I.ar I.wr hf y fun w2 h2 ι2 hK wr2 x2 => ?_
   refine wpOps_in (opersOf_nd hof) nl ?_
   refine evOps_wpOps (dfs := dfs) (ι0 := ι) (h0 := h) (w0 := w) (base := h.nx) hof (fun st' h' ι' a' w' k ar' wr' x => ⟨st', h', ι', ⟨rfl, k⟩, ar', wr', x⟩) r (n + 1) (by omega) _ h2 ι2 _ w2
    ⟨(I.ar.mono (x2.le I.wr)).put' f1 (by simp [VRel]), wr2, I.ex.trans x2, fun j hj hf => ?_, Nat.le_trans I.nx x2.nx, I.b0, I.b1⟩ hK
   rw [x2.old _ (by have := I.nx; omega)]
   exact I.fr j hj (by omega)
theorem k_yld {ops : List AOper} (n : Nat) {d : Option Nat} {f : AX} {args : List AX} (hn : ops[n]? = some ⟨d, none, .call f args⟩)
 (e : evOps P h.nx (ops.take n) 0 st (h.bump ops.length) fun st1 h1 => ∃ t, f.val st1 = .fy t ∧ YW P t (args.map (AX.val st1)) h1 fun h2 => evOps P h.nx (ops.drop (n + 1)) (n + 1) (put d (.b true) st1) h2 K) : W P N (.reg ops) (athen K Q) st h := fun c hc => by
 cases hc with
 | reg hl => exact awp_yld hl hn e
end
def marks (Ds : List Nat) : List Deferred := Ds.map fun D => { target := .collected D, args := #[] }
structure MkOK (B : Nat) (Ds : List Nat) (w : World) : Prop where
 nodup : Ds.Nodup
 ok : ∀ D ∈ Ds, B ≤ D ∧ w.heap[D]? = some (.deferred (some []))
theorem WRel.no_def {ι : Inj} {h : AH} {w : World} (wr : WRel ι h w) {D : Nat} {o : Option (List Deferred)} (hD : w.heap[D]? = some (.deferred o)) : ∀ t c l, h.m t = some c → ι t = some l → l.b ≠ D := fun t c l hm hl e => by
 have hb := (wr.blk t c hm).2
 cases c with
 | cells b cs =>
   rcases hb with ⟨_, hn⟩ | ⟨l', vs, e', fz, q1, q2, _⟩
   ·rw [hl] at hn; cases hn
   ·rw [hl] at q1; cases q1; rw [e, hD] at q2; cases q2
 | frz cs => obtain ⟨l', vs, e', q1, q2, _⟩ := hb; rw [hl] at q1; cases q1; rw [e, hD] at q2; cases q2
 | map es => obtain ⟨l', xs, ck, q1, q2, _⟩ := hb; rw [hl] at q1; cases q1; rw [e, hD] at q2; cases q2
 | raw R => obtain ⟨l', L, q1, q2, _⟩ := hb; rw [hl] at q1; cases q1; rw [e, hD] at q2; cases q2
theorem MkOK.ext {B : Nat} {Ds : List Nat} {ι ι' : Inj} {h h' : AH} {w w' : World} (m : MkOK B Ds w) (wr : WRel ι h w) (x : Ext ι h w ι' h' w') : MkOK B Ds w' :=
 ⟨m.nodup, fun D hD => ⟨(m.ok D hD).1, by
  have q := (m.ok D hD).2
  rw [x.keep D (Array.getElem?_eq_some_iff.1 q).1 fun t c l hm _ hl => wr.no_def q t c l hm hl]
  exact q⟩⟩
def Lift0 (N : Nat) (dfs : List Deferred) (ι0 : Inj) (h0 : AH) (w0 : World) (Q : Exit → St → AH → Prop) : Exit → Act → World → Prop := fun e a w =>
 ∃ st h ι Ds, Q e st h ∧ ARel N (marks Ds ++ dfs) ι st a ∧ MkOK w0.heap.size Ds w ∧ WRel ι h w ∧ Ext ι0 h0 w0 ι h w
theorem Lift0.start {N : Nat} {dfs : List Deferred} {ι0 ι : Inj} {h0 h : AH} {w0 w : World} {Q : Exit → St → AH → Prop} {Ds : List Nat} (m : MkOK w0.heap.size Ds w) (wr : WRel ι h w) (x : Ext ι0 h0 w0 ι h w) {e : Exit} {a : Act} {w' : World}
 (l : Lift0 N (marks Ds ++ dfs) ι h w Q e a w') : Lift0 N dfs ι0 h0 w0 Q e a w' := by
 obtain ⟨st, h', ι', Ds', q, ar, m', wr', x'⟩ := l
 refine ⟨st, h', ι', Ds' ++ Ds, q, by rw [marks, List.map_append, List.append_assoc]; exact ar, ?_, wr', x.trans x'⟩
 have m2 := m.ext wr x'
 refine ⟨List.nodup_append.2 ⟨m'.nodup, m.nodup, fun D hD E hE e => ?_⟩, fun D hD => ?_⟩
 ·subst e
  have q1 := (m'.ok D hD).1
  have q2 := (Array.getElem?_eq_some_iff.1 (m.ok D hE).2).1
  omega
 ·rcases List.mem_append.1 hD with hD | hD
  ·exact ⟨Nat.le_trans x.size (m'.ok D hD).1, (m'.ok D hD).2⟩
  ·exact m2.ok D hD
def W0 (P : Program) (N : Nat) (c : AC) (Q : Exit → St → AH → Prop) (st : St) (h : AH) : Prop :=
 ∀ c', CodeR P N c' c → ∀ dfs ι a w, ARel N dfs ι st a → WRel ι h w → c'.wpIn (RF none) 0 P (Lift0 N dfs ι h w Q) a w
section
variable {P : Program} {N : Nat} {Q Q' : Exit → St → AH → Prop} {K : St → AH → Prop} {st : St} {h : AH}
theorem W0.mono {c : AC} (w : W0 P N c Q st h) (hq : ∀ e st h, Q e st h → Q' e st h) : W0 P N c Q' st h := fun c' hc dfs ι a wd ar wr =>
 wpIn_mono (w c' hc dfs ι a wd ar wr) fun e a' w' l => let ⟨st', h', ι', Ds, q, r⟩ := l; ⟨st', h', ι', Ds, hq _ _ _ q, r⟩
theorem w0_of {c : AC} (w : W P N c Q st h) : W0 P N c Q st h := fun c' hc dfs ι a wd ar wr =>
 wpIn_mono (w c' hc dfs ι a wd ar wr none) fun e a' w' l => let ⟨st', h', ι', q, ar', wr', x⟩ := l; ⟨st', h', ι', [], q, ar', ⟨List.nodup_nil, fun _ q => by cases q⟩, wr', x⟩
theorem w0_seq {a b : AC} (q : W0 P N a (athen (fun st h => W0 P N b Q st h) Q) st h) : W0 P N (.seq a b) Q st h := fun c hc dfs ι ac wd ar wr => by
 cases hc with
 | seq ha hb =>
   refine wpIn_seq (wpIn_mono (q _ ha dfs ι ac wd ar wr) fun e a' w' l => ?_)
   obtain ⟨st', h', ι', Ds, q, ar', m, wr', x⟩ := l
   cases e with
   | normal => exact wpIn_mono (q _ hb _ ι' a' w' ar' wr') fun e a'' w'' l => l.start m wr' x
   | _ => exact ⟨st', h', ι', Ds, q, ar', m, wr', x⟩
theorem w0_blk {id : Nat} {b : AC} (q : W0 P N b (ablk id Q) st h) : W0 P N (.blk id b) Q st h := fun c hc dfs ι ac wd ar wr => by
 cases hc with
 | blk hb =>
   refine wpIn_block (wpIn_mono (q _ hb dfs ι ac wd ar wr) fun e a' w' l => ?_)
   obtain ⟨st', h', ι', Ds, q, ar', m, wr', x⟩ := l
   cases e with
   | exit id' =>
     simp only [Exit.inBlock]
     simp only [ablk] at q
     split
     ·rename_i hid; rw [if_pos hid] at q; exact ⟨st', h', ι', Ds, q, ar', m, wr', x⟩
     ·rename_i hid; rw [if_neg hid] at q; exact ⟨st', h', ι', Ds, q, ar', m, wr', x⟩
   | _ => exact ⟨st', h', ι', Ds, q, ar', m, wr', x⟩
def ICalls (P : Program) (f : Nat) (args : List AV) (h : AH) (R : AH → Prop) : Prop :=
 (∃ fn, P.funcs[f]? = some fn ∧ (fn.name == "runtime.NumGoroutine") = false ∧ fn.body.isNone = false) ∧
 ∀ (ι : Inj) (w : World) (vs : Array Value), WRel ι h w → VRels ι args vs.toList →
   CallsIn (RF none) 0 P f vs w fun e w' => ∃ v h' ι', e = .returned v ∧ R h' ∧ WRel ι' h' w' ∧ Ext ι h w ι' h' w'
theorem i_fn {f : Nat} {ac : AC} {ars : List ARes} {N : Nat} (hf : fnOf P f = some (ac, ars, N)) (hars : ars = []) {args : List AV} {h : AH} {R : AH → Prop} (hN : args.length ≤ N)
 (hw : h.ok → 0 < h.nx → W P N ac (athen (fun _ h => R h) (Fin fun _ h => R h)) (initSt args) h) : ICalls P f args h R := by
 unfold fnOf at hf
 simp only [Option.bind_eq_bind, Option.bind_eq_some_iff] at hf
 obtain ⟨fn, hfn, c, hc, ac', hac, rs, hrs, hf⟩ := hf
 split at hf
 ·cases hf
 ·rename_i hn
  simp only [Option.some.injEq, Prod.mk.injEq] at hf
  obtain ⟨rfl, rfl, rfl⟩ := hf
  subst hars
  refine ⟨⟨fn, hfn, by simpa using hn, by rw [hc]; rfl⟩, fun ι w vs wr hv => ?_⟩
  refine callsIn_of_wp hfn hc trivial (wpIn_mono (hw (fun t b hb => (wr.blk t b hb).1) wr.pos c (code_R hac) [] ι _ w (start_rel wr.nil0.2 hv hN) wr none) fun e a' w' l => ?_)
  obtain ⟨st', h', ι', q, ar', wr', x⟩ := l
  obtain ⟨v, h1, h2⟩ := res_run (us := []) hrs ar' wr' rfl
  cases e with
  | normal => exact ⟨ar'.defs, v, h1, v, h', ι', rfl, q, wr', x⟩
  | ret => exact ⟨ar'.defs, v, h1, v, h', ι', rfl, q.2, wr', x⟩
  | exit id => exact absurd q.1 (by simp)
  | goto t => exact absurd q.1 (by simp)
  | panic ch => exact absurd q.1 (by simp)
  | outgrown => exact absurd q.1 (by simp)
theorem w0_rf {g : AX} {ps : List Nat} {aa bb : AC} {gf : Nat} {fst caps : List AV} (hg : g.val st = .fn gf fst caps)
 (hit : h.ok → 0 < h.nx → ICalls P gf (fst ++ [.fy h.nx] ++ caps) ((h.bump 1).set h.nx (recB P N st ps aa bb .ready)) fun h' => h'.m h.nx = some (recB P N st ps aa bb .ready) ∧ K st (h'.kill h.nx)) :
 W0 P N (.rf g ps aa bb) (athen K Q) st h := fun c hc dfs ι a w ar wr => by
 cases hc with
 | @rf go psA ca cb _ _ _ hgo hp ha hb =>
   obtain ⟨⟨fn0, hfn, hnm, hbd⟩, hcall⟩ := hit (fun t b hb => (wr.blk t b hb).1) wr.pos
   have rf := toX_sound ar hgo
   rw [hg] at rf
   simp only [VRel] at rf
   obtain ⟨x1, y1, hv, q1, q2⟩ := rf
   refine wpIn_rangeFunc fun fn _ => ?_
   obtain ⟨L, hL⟩ : ∃ L : Loop, L = { state := .ready, pending := none, fn, tmps := a.tmps, params := psA, assign := ca, body := cb, defers := w.heap.size } := ⟨_, rfl⟩
   obtain ⟨W1, hW1⟩ : ∃ W1, (w.alloc (.deferred (some []))).alloc (.loop L) = W1 := ⟨_, rfl⟩
   have s1 : W1.heap.size = w.heap.size + 2 := by rw [← hW1, World.size_alloc, World.size_alloc]
   have hl1 : W1.heap[w.heap.size + 1]? = some (.loop L) := by
    rw [← hW1]; have := World.alloc_heap_new (w.alloc (.deferred (some []))) (.loop L); rwa [World.size_alloc] at this
   have hk1 : W1.heap[w.heap.size]? = some (.deferred (some [])) := by
    rw [← hW1]; exact (Go.RowKit.Below.heap_alloc _ _ _ (by rw [World.size_alloc]; omega)).trans (World.alloc_heap_new w _)
   have hold : ∀ b, b < w.heap.size → W1.heap[b]? = w.heap[b]? := fun b hb => by
    rw [← hW1, Go.RowKit.Below.heap_alloc _ _ _ (by rw [World.size_alloc]; omega), Go.RowKit.Below.heap_alloc _ _ _ hb]
   -- the record under its token
   have hn : ι h.nx = none := by
    cases hq : ι h.nx with
    | none => rfl
    | some l => have := (wr.lt _ l hq).1; omega
   have pos := wr.pos
   have phi := PhiOk.refl ι.φ w W1 (some ⟨w.heap.size + 1, 0, 0⟩)
   have hil : ι.le ((ι.ph ι.φ).lay h.nx (some ⟨w.heap.size + 1, 0, 0⟩)) := ⟨fun s l hs => by
    have : s ≠ h.nx := fun e => by subst e; rw [hn] at hs; cases hs
    rw [Inj.lay_ne _ this]; exact hs, fun _ _ x => x⟩
   have hbr : BRel ((ι.ph ι.φ).lay h.nx (some ⟨w.heap.size + 1, 0, 0⟩)) W1 h.nx (recB P N st psA.toList aa bb .ready) := by
    simp only [BRel]
    refine ⟨⟨w.heap.size + 1, 0, 0⟩, L, Inj.lay_same _ _ _, hl1, fun ι' le => ?_⟩
    subst hL
    exact ⟨rfl, rfl, rfl, hp, ⟨ar.size, rfl, ar.tab.mono (Inj.le_trans hil le), fun d => (ar.slot d).mono (Inj.le_trans hil le)⟩, ha, hb⟩
   have wr1 := WRel.lay phi (wr.bump 1) hn (by omega) (by simp) (fun l e => by cases e; exact ⟨by simp, by simp [s1]⟩) hbr (by rw [s1]; omega) hold
   have o1 : W1.os = w.os := by rw [← hW1]; rfl
   have o2 : W1.tape = w.tape := by rw [← hW1]; rfl
   have o3 : W1.output = w.output := by rw [← hW1]; rfl
   have o4 : w.drawn ≤ W1.drawn := by rw [← hW1]; exact Nat.le_refl _
   have x1' := Ext.lay (bk := recB P N st psA.toList aa bb .ready) phi ((Ext.refl ι h w).bump 1) (Nat.le_refl h.nx) (fun l e => by cases e; exact ⟨by simp, by simp [s1]⟩) o4 o1 o2 o3 (by rw [s1]; omega) hold
   have eg : ∀ args w, (callFunc gf args).run P w = .ok (.enter gf args) w := fun args w => by
    have hnm2 : fn0.name ≠ "runtime.NumGoroutine" := by intro hh; simp [hh] at hnm
    have hbd2 : fn0.body ≠ none := by intro hh; simp [hh] at hbd
    simp [callFunc, hfn, hnm2, hbd2]
   have hy : VRel ((ι.ph ι.φ).lay h.nx (some ⟨w.heap.size + 1, 0, 0⟩)) (.fy h.nx) (.func (.yield (w.heap.size + 1)) #[] #[]) := by
    simp only [VRel]
    exact ⟨_, Inj.lay_same _ _ _, rfl⟩
   refine ⟨w.heap.size + 1, [{ target := .collected w.heap.size, args := #[] }], W1, { target := .fn (.func gf) y1, args := x1 ++ #[.func (.yield (w.heap.size + 1)) #[] #[]] }, W1, gf,
    x1 ++ #[.func (.yield (w.heap.size + 1)) #[] #[]] ++ y1, W1, ?_, ?_, fun _ _ => trivial, ?_, (fun q => by simp [RF, Fence.wide] at q), ?_⟩
   ·rw [← hW1, hL]; exact run_enterLoop_outer _ _ _ _ _
   ·simp only [resolve, hv]
    simp [Deferred.ofValue, Act.eval]
   ·simp [invoke, eg]
   ·refine CallsIn.mono (hcall _ W1 _ wr1 ?_) fun e w2 he => ?_
    ·simp only [Array.toList_append]
     refine VRels.append (VRels.append (VRels.mono hil q1) ?_) (VRels.mono hil q2)
     simp only [VRels]
     exact ⟨_, _, rfl, hy, rfl⟩
    ·obtain ⟨v, h', ι', rfl, ⟨hm', hK⟩, wr', x'⟩ := he
     obtain ⟨l2, L2, p1, p2, p3, p4, -⟩ := recB_get wr' hm'
     have : l2 = ⟨w.heap.size + 1, 0, 0⟩ := by
      rw [x'.old h.nx (by show h.nx < h.nx + 1; omega), Inj.lay_same] at p1
      exact (Option.some.inj p1).symm
     subst this
     obtain ⟨wr3, x3⟩ := recB_put wr' hm' p1 p2 .exhausted
     have kl : (h'.kill h.nx).le (h'.set h.nx (recB P N st psA.toList aa bb .exhausted)) := ⟨fun t c hc => by
      unfold AH.kill at hc
      unfold AH.set
      by_cases e : t = h.nx
      ·simp [e] at hc
      ·simp only [if_neg e] at hc ⊢; exact hc, Nat.le_refl _⟩
     have mk1 : MkOK w.heap.size [w.heap.size] W1 := ⟨by simp, fun D hD => by
      rw [List.mem_singleton] at hD; subst hD; exact ⟨Nat.le_refl _, hk1⟩⟩
     have mk2 := (mk1.ext wr1 x').ext wr' x3
     have eL : ({ L2 with state := .exhausted, pending := none } : Loop) = { L2 with state := .exhausted } := by rw [← p4]
     rw [eL] at wr3 x3 mk2
     exact ⟨none, _, by rw [run_endLoop p2 (by rw [p3]; simp), p4], st, h'.kill h.nx, ι', [w.heap.size], hK,
      ⟨ar.size, by show _ ++ a.defers = _; rw [ar.defs]; rfl, (ar.tab.mono hil).mono ((x'.trans x3).le wr1), fun d => ((ar.slot d).mono hil).mono ((x'.trans x3).le wr1)⟩, mk2, wr3.drop kl, ((x1'.trans x').trans x3).drop kl⟩
structure Sh (Ds : List Nat) (w w' : World) : Prop where
 os : w'.os = w.os
 tape : w'.tape = w.tape
 output : w'.output = w.output
 drawn : w'.drawn = w.drawn
 size : w'.heap.size = w.heap.size
 same : ∀ b, b ∉ Ds → w'.heap[b]? = w.heap[b]?
theorem leaves_marks {F : Fence} {n : Nat} {fn : Func} {tmps : Array Value} {R : Ending → World → Prop} : ∀ {Ds : List Nat} {w : World}, Ds.Nodup → (∀ D ∈ Ds, w.heap[D]? = some (.deferred (some []))) →
 (∀ w', Sh Ds w w' → ∃ v, (results fn tmps).run P w' = .ok v w' ∧ R (.returned v) w') → LeavesInM F n P fn tmps R (marks Ds) .returning w
 | [], w, _, _, hr => hr w ⟨rfl, rfl, rfl, rfl, rfl, fun _ _ => rfl⟩
 | D :: Ds, w, hn, hd, hr => by
   obtain ⟨n1, n2⟩ := List.nodup_cons.1 hn
   refine ⟨by simp, .inl ⟨D, w.putObj D (.deferred none), rfl, run_takeDeferred (hd D (by simp)), leaves_marks n2 (fun E hE => ?_) fun w' sh => hr w' ⟨sh.os, sh.tape, sh.output, sh.drawn, by rw [sh.size]; exact World.putObj_size, fun b hb => ?_⟩⟩⟩
   ·rw [World.putObj_heap_other (fun e : E = D => n1 (by rw [← e]; exact hE))]; exact hd E (by simp [hE])
   ·simp only [List.mem_cons, not_or] at hb
    rw [sh.same b hb.2, World.putObj_heap_other hb.1]
theorem WRel.sh {ι : Inj} {w w' : World} (wr : WRel ι h w) {Ds : List Nat} (hd : ∀ D ∈ Ds, w.heap[D]? = some (.deferred (some []))) (s : Sh Ds w w') : WRel ι h w' where
 lt t l ht := ⟨(wr.lt t l ht).1, by rw [s.size]; exact (wr.lt t l ht).2⟩
 blk t c hc := ⟨(wr.blk t c hc).1, (wr.blk t c hc).2.mono (Inj.le_refl _) rfl fun l hl => s.same l.b fun hD => wr.no_def (hd _ hD) t c l hc hl rfl⟩
 inj := wr.inj
 pos := wr.pos
 nil0 := wr.nil0
 phi b xs hb := by
  obtain ⟨⟨e, fz, hh⟩, ho⟩ := wr.phi b xs hb
  exact ⟨⟨e, fz, by rw [s.same b fun hD => by rw [hd b hD] at hh; cases hh]; exact hh⟩, ho⟩
theorem Ext.sh {ι0 ι : Inj} {h0 : AH} {w0 w w' : World} (x : Ext ι0 h0 w0 ι h w) {Ds : List Nat} (hd : ∀ D ∈ Ds, w0.heap.size ≤ D) (s : Sh Ds w w') : Ext ι0 h0 w0 ι h w' :=
 ⟨x.nx, x.old, s.os.trans x.os, s.tape.trans x.tape, s.output.trans x.output, by rw [s.size]; exact x.size, fun b hb hk => by
  rw [s.same b fun hD => by have := hd b hD; omega]; exact x.keep b hb hk, x.img, x.phi, x.new, by rw [s.drawn]; exact x.drawn⟩
theorem a_fn0 {f : Nat} {ac : AC} {ars : List ARes} {N : Nat} (hf : fnOf P f = some (ac, ars, N)) {args : List AV} {h : AH} {R : AV → AH → Prop} (hN : args.length ≤ N)
 (hw : h.ok → 0 < h.nx → W0 P N ac (athen (Post ars R) (Fin (Post ars R))) (initSt args) h) : ACalls P f args h R := by
 unfold fnOf at hf
 simp only [Option.bind_eq_bind, Option.bind_eq_some_iff] at hf
 obtain ⟨fn, hfn, c, hc, ac', hac, rs, hrs, hf⟩ := hf
 split at hf
 ·cases hf
 ·rename_i hn
  simp only [Option.some.injEq, Prod.mk.injEq] at hf
  obtain ⟨rfl, rfl, rfl⟩ := hf
  refine ⟨⟨fn, hfn, by simpa using hn, by rw [hc]; rfl⟩, fun ι w vs wr hv => ?_⟩
  refine callsIn_wide.1 (callsIn_of_wp_marks (F := RF none) (n := 0) hfn hc trivial (wpIn_mono (hw (fun t b hb => (wr.blk t b hb).1) wr.pos c (code_R hac) [] ι _ w (start_rel wr.nil0.2 hv hN) wr) fun e a' w' l => ?_))
  obtain ⟨st', h', ι', Ds, q, ar', m, wr', x⟩ := l
  have key : Post rs R st' h' → LeavesInM (RF none) 0 P fn a'.tmps (fun e w' => ∃ v r h' ι', e = .returned v ∧ R r h' ∧ VRel ι' r v ∧ WRel ι' h' w' ∧ Ext ι h w ι' h' w') a'.defers .returning w' := fun ⟨us, hus, hR⟩ => by
   have hdf := ar'.defs
   rw [List.append_nil] at hdf
   rw [hdf]
   refine leaves_marks m.nodup (fun D hD => (m.ok D hD).2) fun w2 sh => ?_
   have wr2 := wr'.sh (fun D hD => (m.ok D hD).2) sh
   obtain ⟨v, h1, h2⟩ := res_run hrs ar' wr2 hus
   exact ⟨v, h1, v, _, h', ι', rfl, hR, h2, wr2, x.sh (fun D hD => (m.ok D hD).1) sh⟩
  cases e with
  | normal => exact key q
  | ret => exact key q.2
  | exit id => exact absurd q.1 (by simp)
  | goto t => exact absurd q.1 (by simp)
  | panic ch => exact absurd q.1 (by simp)
  | outgrown => exact absurd q.1 (by simp)
theorem k0_seq {a b : AC} (w : W P N a (athen (fun st h => W0 P N b (athen K Q) st h) (athen K Q)) st h) : W0 P N (.seq a b) (athen K Q) st h := w0_seq (w0_of w)
theorem k0_seq0 {a b : AC} (w : W0 P N a (athen (fun st h => W0 P N b (athen K Q) st h) (athen K Q)) st h) : W0 P N (.seq a b) (athen K Q) st h := w0_seq w
theorem k0_blk {id : Nat} {b : AC} (q : W0 P N b (athen K (ablk id (athen K Q))) st h) : W0 P N (.blk id b) (athen K Q) st h :=
 w0_blk (q.mono fun e st h he => by cases e <;> exact he)
end
def plugS : Option (List AV × List AV) → Bool
 | none => true
 | some (a, b) => AV.scals a && AV.scals b
theorem scals_mem : ∀ {cs : List AV} {a : AV}, AV.scals cs = true → a ∈ cs → a.scal = true
 | c :: cs, a, h, hm => by
   simp only [AV.scals, Bool.and_eq_true] at h
   rcases List.mem_cons.1 hm with rfl | hm
   ·exact h.1
   ·exact scals_mem h.2 hm
theorem FCalls.at {P : Program} {f : Nat} {args args' : List AV} {p : Option (List AV × List AV)} {n k : Nat} {cs : List AV} (c : FCalls P f args H1 p n k cs) (hp : plugS p = true) (hc : AV.scals cs = true) {h : AH} (F : Nows h args' args) : FCalls P f args' h p n k cs := by
 refine ⟨c.ex, fun ι w vs wr hvs => Calls.mono (c.run (ιφ w) w vs (WRel.h1 (φW_ok w) (tab_φW wr)) (Nows.rel wr F hvs)) fun e w' he => ?_⟩
 obtain ⟨v, loc, φ', rfl, h1, h2, h3, h4⟩ := he
 refine ⟨v, loc, ι.φ, rfl, h1, PhiOk.refl _ _ _ _, fun ι' t ht hφ => ?_, h4⟩
 obtain ⟨r1, r2⟩ := h3 ⟨ι'.f, φ'⟩ t ht fun b xs h => h
 refine ⟨?_, ?_⟩
 ·cases p with
  | none => simp only [plug, VRel] at r1 ⊢; exact r1
  | some ab =>
    obtain ⟨a, b⟩ := ab
    simp only [plugS, Bool.and_eq_true] at hp
    simp only [plug, VRel] at r1 ⊢
    obtain ⟨x, hx, hr⟩ := r1
    refine ⟨x, hx, ?_⟩
    rw [VRels_append] at hr ⊢
    obtain ⟨y, z, e, q1, q2⟩ := hr
    refine ⟨y, z, e, scals_rel hp.1 q1, ?_⟩
    simp only [VRels] at q2 ⊢
    obtain ⟨u, r, e2, q3, q4⟩ := q2
    simp only [VRel] at q3 ⊢
    exact ⟨u, r, e2, q3, scals_rel hp.2 q4⟩
 ·simp only [BRel] at r2 ⊢
  rcases r2 with q | ⟨l, vs, e, fz, q1, q2, q3, q4, q5, q6⟩
  ·exact .inl q
  ·refine .inr ⟨l, vs, e, fz, q1, q2, q3, q4, q5, fun i a ha => ?_⟩
   obtain ⟨u, hu, hr⟩ := q6 i a ha
   exact ⟨u, hu, scal_rel (scals_mem hc (List.mem_of_getElem? ha)) hr⟩
end Go.Am
set_option linter.unusedVariables false
set_option linter.unusedSimpArgs false
namespace Go.Am
abbrev Rw := Nat × List AV
def rS (k : Nat) (t : Nat) (p : Rw) : AV := .sl t 0 p.1 k
def rV (p : Rw) : AV := .vs p.1 p.2
def rC (k : Nat) (ts : List Nat) (rows : List Rw) : List AV := List.zipWith (rS k) ts rows
def rD (rows : List Rw) (i : Nat) : Rw := rows.getD i (0, [])
def tD (ts : List Nat) (i : Nat) : Nat := ts.getD i 0
structure Nest (h : AH) (k r : Nat) (ts : List Nat) (rows : List Rw) : Prop where
 ok : ∀ p ∈ rows, p.1 * k = p.2.length
 len : ts.length = rows.length
 nd : ts.Nodup
 nr : ∀ t ∈ ts, t ≠ 0 ∧ t ≠ r
 r0 : r ≠ 0
 hr : h.m r = some (.cells true (rC k ts rows))
 ht : ∀ i, i < rows.length → h.m (tD ts i) = some (.cells true (rD rows i).2)
section
variable {h h' : AH} {k r r' t n : Nat} {ts : List Nat} {rows : List Rw} {cs : List AV}
theorem rC_get (e : ts.length = rows.length) {i : Nat} (hi : i < rows.length) : (rC k ts rows)[i]? = some (.sl (tD ts i) 0 (rD rows i).1 k) := by
 have h1 : i < ts.length := by omega
 simp [rC, rS, List.getElem?_zipWith, hi, h1, tD, rD]
theorem rC_set (e : ts.length = rows.length) {i : Nat} : (rC k ts rows).set i (.sl t 0 n k) = rC k (ts.set i t) (rows.set i (n, cs)) := by
 unfold rC
 apply List.ext_getElem?
 intro j
 by_cases hi : j = i
 ·subst hi
  by_cases hj : j < rows.length
  ·have : j < ts.length := by omega
   have h3 : j < min ts.length rows.length := by omega
   simp [List.getElem?_set, List.getElem?_zipWith, hj, this, rS, h3]
  ·rw [List.getElem?_eq_none (by simp; omega), List.getElem?_eq_none (by simp; omega)]
 ·have hne : ¬ i = j := fun q => hi q.symm
  simp [List.getElem?_set, List.getElem?_zipWith, hne]
theorem Nest.mem (N : Nest h k r ts rows) {i : Nat} (hi : i < rows.length) : tD ts i ∈ ts := by
 have : i < ts.length := by have := N.len; omega
 simp [tD, this]
theorem Nest.row (N : Nest h k r ts rows) {i : Nat} (hi : i < rows.length) : h.m (tD ts i) = some (.cells true (rD rows i).2) := N.ht i hi
theorem Nest.cell (N : Nest h k r ts rows) {i : Nat} (hi : i < rows.length) : (rC k ts rows)[i]? = some (.sl (tD ts i) 0 (rD rows i).1 k) := rC_get N.len hi
theorem Nest.ne (N : Nest h k r ts rows) {i : Nat} (hi : i < rows.length) : tD ts i ≠ 0 ∧ tD ts i ≠ r := N.nr _ (N.mem hi)
theorem Nest.keep (N : Nest h k r ts rows) (F : ∀ t b, h.m t = some b → h'.m t = some b) : Nest h' k r ts rows :=
 ⟨N.ok, N.len, N.nd, N.nr, N.r0, F _ _ N.hr, fun i hi => F _ _ (N.ht i hi)⟩
theorem Nest.nil (hr : h.m r = some (.cells true [])) (r0 : r ≠ 0) : Nest h k r [] [] := ⟨fun p hp => by (cases hp), rfl, List.nodup_nil, fun t h => by (cases h), r0, hr, fun i hi => by simp at hi⟩
theorem nodup_set {ts : List Nat} {i t : Nat} (h : ts.Nodup) (hn : t ∉ ts) : (ts.set i t).Nodup := by
 induction ts generalizing i with
 | nil => simp
 | cons a ts ih =>
   have h' := List.nodup_cons.1 h
   simp only [List.mem_cons, not_or] at hn
   cases i with
   | zero => rw [List.set_cons_zero]; exact List.nodup_cons.2 ⟨hn.2, h'.2⟩
   | succ i =>
     rw [List.set_cons_succ]
     refine List.nodup_cons.2 ⟨fun hm => ?_, ih h'.2 hn.2⟩
     rcases List.mem_or_eq_of_mem_set hm with q | q
     ·exact h'.1 q
     ·exact hn.1 q.symm
theorem Nest.put (N : Nest h k r ts rows) {i : Nat} (hi : i < rows.length) (hn : n * k = cs.length) (t0 : t ≠ 0) (tr : t ≠ r) (tn : t ∉ ts) (hr : h'.m r = some (.cells true ((rC k ts rows).set i (.sl t 0 n k)))) (ht : h'.m t = some (.cells true cs))
 (F : ∀ s b, s ∈ ts → s ≠ tD ts i → h.m s = some b → h'.m s = some b) : Nest h' k r (ts.set i t) (rows.set i (n, cs)) where
 ok p hp := by
  rcases List.mem_or_eq_of_mem_set hp with hp | rfl
  ·exact N.ok p hp
  ·exact hn
 len := by simp [N.len]
 nd := nodup_set N.nd tn
 nr s hs := by
  rcases List.mem_or_eq_of_mem_set hs with hs | rfl
  ·exact N.nr s hs
  ·exact ⟨t0, tr⟩
 r0 := N.r0
 hr := by rw [hr, rC_set N.len]
 ht j hj := by
  rw [List.length_set] at hj
  have hj' : j < ts.length := by have := N.len; omega
  have hi' : i < ts.length := by have := N.len; omega
  by_cases e : j = i
  ·subst e
   have h1 : tD (ts.set j t) j = t := by simp [tD, List.getD_eq_getElem?_getD, hj']
   have h2 : rD (rows.set j (n, cs)) j = (n, cs) := by simp [rD, List.getD_eq_getElem?_getD, hj]
   rw [h1, h2]; exact ht
  ·have ne : ¬ i = j := fun q => e q.symm
   have h1 : tD (ts.set i t) j = tD ts j := by simp [tD, List.getD_eq_getElem?_getD, List.getElem?_set, ne]
   have h2 : rD (rows.set i (n, cs)) j = rD rows j := by simp [rD, List.getD_eq_getElem?_getD, List.getElem?_set, ne]
   rw [h1, h2]
   refine F _ _ (N.mem hj) (fun q => ?_) (N.ht j hj)
   have q2 : ts[j] = ts[i] := by simpa [tD, hj', hi'] using q
   exact e ((List.getElem_inj N.nd).1 q2)
def rJ (k : Nat) (ts : List Nat) (rows : List Rw) (j : Nat) : List AV := (List.range rows.length).map fun i => if i < j then rV (rD rows i) else rS k (tD ts i) (rD rows i)
end
end Go.Am
set_option linter.unusedVariables false
set_option linter.unusedSimpArgs false
namespace Go.Am
theorem cell_world {ι : Inj} {h : AH} {w : World} {s : Nat} {wr : Bool} {ds ds' : List AV} (r : WRel ι h w) (hm : h.m s = some (.cells wr ds)) (hl : ds'.length = ds.length)
 (hd : ∀ (i : Nat) (a : AV), ds'[i]? = some a → ∃ v, ds[i]? = some v ∧ ∀ u, VRel ι v u → VRel ι a u) :
 WRel ι (h.set s (.cells wr ds')) w ∧ Ext ι h w ι (h.set s (.cells wr ds')) w := by
 have old : ∀ t c, (h.set s (.cells wr ds')).m t = some c → ∃ c0, h.m t = some c0 ∧ c0.wr = c.wr := fun t c hc => by
  unfold AH.set at hc
  by_cases e : t = s
  ·subst e; simp only [if_true, Option.some.injEq] at hc; exact ⟨_, hm, by rw [← hc]; rfl⟩
  ·simp only [if_neg e] at hc; exact ⟨c, hc, rfl⟩
 refine ⟨⟨r.lt, fun t c hc => ?_, fun t t' l l' c c' h1 h2 h3 h4 h5 h6 => ?_, r.pos, r.nil0, fun b xs hb => ⟨(r.phi b xs hb).1, fun t c l hc hw hl => ?_⟩⟩, ⟨Nat.le_refl _, fun _ _ => rfl, rfl, rfl, rfl, Nat.le_refl _, fun _ _ _ => rfl, fun t c l hc hw hl => ?_, fun _ _ x => x, fun _ _ x => .inl x, Nat.le_refl _⟩⟩
 ·unfold AH.set at hc
  by_cases e : t = s
  ·subst e
   simp only [if_true, Option.some.injEq] at hc
   subst hc
   refine ⟨(r.blk t _ hm).1, ?_⟩
   have hb := (r.blk t _ hm).2
   simp only [BRel] at hb ⊢
   rcases hb with ⟨rfl, hn⟩ | ⟨l, vs, e, fz, h1, h2, h3, h4, h5, h6⟩
   ·exact .inl ⟨List.length_eq_zero_iff.1 (by rw [hl]; rfl), hn⟩
   ·refine .inr ⟨l, vs, e, fz, h1, h2, h3, by rw [hl]; exact h4, h5, fun i a ha => ?_⟩
    obtain ⟨v, hv, hvv⟩ := hd i a ha
    obtain ⟨u, hu, hr⟩ := h6 i v hv
    exact ⟨u, hu, hvv u hr⟩
  ·simp only [if_neg e] at hc
   exact r.blk t c hc
 ·obtain ⟨c0, q1, q2⟩ := old t c h1
  obtain ⟨c0', q3, q4⟩ := old t' c' h2
  exact r.inj t t' l l' c0 c0' q1 q3 h3 h4 h5 (by rw [q2, q4]; exact h6)
 ·obtain ⟨c0, q1, q2⟩ := old t c hc
  exact (r.phi b xs hb).2 t c0 l q1 (q2.trans hw) hl
 ·obtain ⟨c0, q1, q2⟩ := old t c hc
  exact .inr ⟨t, c0, l, q1, q2.trans hw, hl, rfl⟩
theorem virt_world {ι : Inj} {h : AH} {wd : World} (wr : WRel ι h wd) : ι h.nx = none ∧ WRel ι ((h.bump 1).set h.nx (.cells true [])) wd ∧ Ext ι h wd ι ((h.bump 1).set h.nx (.cells true [])) wd := by
 have hn : ι h.nx = none := by
  cases hq : ι h.nx with
  | none => rfl
  | some l => have := (wr.lt _ l hq).1; omega
 have hm1 : ∀ s c, ((h.bump 1).set h.nx (.cells true [])).m s = some c → (s = h.nx ∧ c = .cells true []) ∨ h.m s = some c := fun s c hs => by
  unfold AH.set at hs
  by_cases e : s = h.nx
  ·subst e; simp only [if_true, Option.some.injEq] at hs; exact .inl ⟨rfl, hs.symm⟩
  ·simp only [if_neg e] at hs; exact .inr hs
 refine ⟨hn, ?_, ?_⟩
 ·refine ⟨fun t l hl => ⟨by have := (wr.lt t l hl).1; show t < h.nx + 1; omega, (wr.lt t l hl).2⟩, fun t c hc => ?_, fun t t' l l' c c' h1 h2 h3 h4 h5 h6 => ?_, Nat.succ_pos _, wr.nil0, fun b xs hb => ⟨(wr.phi b xs hb).1, fun t c l hc hw hl => ?_⟩⟩
  ·rcases hm1 t c hc with ⟨rfl, rfl⟩ | hc
   ·exact ⟨by show h.nx < h.nx + 1; omega, .inl ⟨rfl, hn⟩⟩
   ·exact ⟨by have := (wr.blk t c hc).1; show t < h.nx + 1; omega, (wr.blk t c hc).2⟩
  ·rcases hm1 t c h1 with ⟨rfl, rfl⟩ | h1
   ·rw [hn] at h3; cases h3
   rcases hm1 t' c' h2 with ⟨rfl, rfl⟩ | h2
   ·rw [hn] at h4; cases h4
   exact wr.inj t t' l l' c c' h1 h2 h3 h4 h5 h6
  ·rcases hm1 t c hc with ⟨rfl, rfl⟩ | hc
   ·rw [hn] at hl; cases hl
   ·exact (wr.phi b xs hb).2 t c l hc hw hl
 ·refine ⟨Nat.le_succ _, fun _ _ => rfl, rfl, rfl, rfl, Nat.le_refl _, fun _ _ _ => rfl, fun t c l hc hw hl => ?_, fun _ _ x => x, fun _ _ x => .inl x, Nat.le_refl _⟩
  rcases hm1 t c hc with ⟨rfl, rfl⟩ | hc
  ·rw [hn] at hl; cases hl
  ·exact .inr ⟨t, c, l, hc, hw, hl, rfl⟩
section
variable {P : Program} {N : Nat} {Q : Exit → St → AH → Prop} {st : St} {h : AH}
theorem w_virtH {c : AC} (k : Nat) {s : Nat} {wb : Bool} {ds : List AV} (hm : h.m s = some (.cells wb ds)) {i : Nat} (hi : ds[i]? = some (.sl 0 0 0 0))
 (w : 0 < h.nx → s < h.nx → W P N c Q st (((h.bump 1).set h.nx (.cells true [])).set s (.cells wb (ds.set i (.sl h.nx 0 0 k))))) : W P N c Q st h := fun c' hc dfs ι a wd ar wr => by
 obtain ⟨hn, wr1, ex1⟩ := virt_world wr
 have ls := (wr.blk s _ hm).1
 have hm1 : ((h.bump 1).set h.nx (.cells true [])).m s = some (.cells wb ds) := by
  unfold AH.set
  simp only [if_neg (show ¬ s = h.nx by omega)]
  exact hm
 obtain ⟨wr2, ex2⟩ := cell_world (ds' := ds.set i (.sl h.nx 0 0 k)) wr1 hm1 (by rw [List.length_set]) fun j x hj => by
  by_cases e : i = j
  ·subst e
   refine ⟨_, hi, fun u hu => ?_⟩
   have l : i < ds.length := by
    refine Classical.byContradiction fun z => ?_
    rw [List.getElem?_eq_none (by omega)] at hi; cases hi
   rw [List.getElem?_set_self l] at hj
   simp only [Option.some.injEq] at hj
   subst hj
   simp only [VRel] at hu ⊢
   rcases hu with ⟨_, x, hx⟩ | ⟨l, cap, hl, _⟩
   ·exact .inl ⟨by trivial, x, hx⟩
   ·rw [wr1.nil] at hl; cases hl
  ·rw [List.getElem?_set_ne e] at hj
   exact ⟨x, hj, fun u hu => hu⟩
 refine wp_mono (w wr.pos ls c' hc dfs ι a wd ar wr2) fun e a' w' l => ?_
 obtain ⟨st'', h'', ι'', q, ar'', wr'', x⟩ := l
 exact ⟨st'', h'', ι'', q, ar'', wr'', (ex1.trans ex2).trans x⟩
end
theorem postct {R : AV → AH → Prop} {st : St} {h : AH} {a b : Nat} {k : Option Nat} {t o : Nat} {v : AV} (e : st.get a = .p t o) (e2 : h.read t o k = some v) (q : R (.tu [v, st.get b]) h) : Post [.c a k, .t b] R st h := by
 have e3 : ARes.val st h (.c a k) = some v := by
  unfold ARes.val
  simp only [e]
  exact e2
 refine ⟨[v, st.get b], ?_, q⟩
 simp only [List.mapM_cons, List.mapM_nil, e3]
 rfl
end Go.Am
set_option linter.unusedVariables false
set_option linter.unusedSimpArgs false
namespace Go.Proofs.YtjaihaccehaicaaDoor
open Go Go.Am Go.Proofs
theorem EVA : (type_of% @EV0) ∧ (type_of% @EV1) ∧ (type_of% @EV2) ∧ (type_of% @EV3) ∧ (type_of% @EV4) ∧ (type_of% @EV5) ∧ (type_of% @EV6) ∧ (type_of% @EV7) ∧ (type_of% @EV8) ∧ (type_of% @VALS) ∧ (type_of% @ite_same) ∧ (type_of% @decide_true) ∧ (type_of% @decide_false) := ⟨@EV0, @EV1, @EV2, @EV3, @EV4, @EV5, @EV6, @EV7, @EV8, @VALS, @ite_same, @decide_true, @decide_false⟩
theorem zrF {P : Program} {base i : Nat} {K : St → AH → Prop} {st : St} {h : AH} {d : Option Nat} {f : AX} {args : List AX} {os : List AOper} {fid : Nat} {fst caps : List AV} {s : Nat} {want g : Bool} (k : evOps P base os (i + 1) (put d (.gd false .un) st) h K) (hg : guardOf (st.get s) want = some g := by simp only [CA, simprocAttr]; rfl) (hg2 : g = false := by exact rfl) (hf : f.val (stS false st) = .fn fid fst caps := by simp only [CA, simprocAttr]; rfl) : evR P base (.call ⟨d, some (s, want), .call f args⟩ os i st h) K := r_callF hg hg2 hf rfl k
theorem zhF {P : Program} {base i : Nat} {K : St → AH → Prop} {st : St} {h : AH} {d : Option Nat} {f : AX} {args : List AX} {os : List AOper} {fid : Nat} {fst caps : List AV} {hb : AH} {s : Nat} {want g : Bool} (k : evHead P base hb os (i + 1) (put d (.gd false .un) st) h K) (hg : guardOf (st.get s) want = some g := by simp only [CA, simprocAttr]; rfl) (hg2 : g = false := by exact rfl) (hf : f.val (stS false st) = .fn fid fst caps := by simp only [CA, simprocAttr]; rfl) : evHR P base hb (.call ⟨d, some (s, want), .call f args⟩ os i st h) K := hr_callF hg hg2 hf rfl k
theorem zrP {P : Program} {base i : Nat} {K : St → AH → Prop} {st : St} {h : AH} {d : Option Nat} {f : AX} {args : List AX} {os : List AOper} {fid : Nat} {fst caps : List AV} {az : List AV} {v : AV} (hf : f.val st = .fn fid fst caps := by simp only [CA, simprocAttr]; rfl) (ha : fst ++ args.map (AX.val st) ++ caps = az := by simp only [CA, simprocAttr]; rfl) (c : ACalls P fid az h fun r h' => r = v ∧ h' = h) (k : evOps P base os (i + 1) (put d v st) h K) : evR P base (.call ⟨d, none, .call f args⟩ os i st h) K := r_callP hf ha c rfl k
theorem zhP {P : Program} {base i : Nat} {K : St → AH → Prop} {st : St} {h : AH} {d : Option Nat} {f : AX} {args : List AX} {os : List AOper} {fid : Nat} {fst caps : List AV} {hb : AH} {az : List AV} {v : AV} (hf : f.val st = .fn fid fst caps := by simp only [CA, simprocAttr]; rfl) (ha : fst ++ args.map (AX.val st) ++ caps = az := by simp only [CA, simprocAttr]; rfl) (c : ACalls P fid az hb fun r h' => r = v ∧ h' = hb) (k : evHead P base hb os (i + 1) (put d v st) h K) : evHR P base hb (.call ⟨d, none, .call f args⟩ os i st h) K := hr_callP hf ha c rfl k
theorem zhQ {t : Nat} {P : Program} {base i : Nat} {K : St → AH → Prop} {st : St} {h : AH} {d : Option Nat} {f : AX} {args : List AX} {os : List AOper} {fid : Nat} {fst caps : List AV} {hb : AH} {az : List AV} {v : AV} (hf : f.val st = .fn fid fst caps := by simp only [CA, simprocAttr]; rfl) (ha : fst ++ args.map (AX.val st) ++ caps = az := by simp only [CA, simprocAttr]; rfl) (ht : firstTok (args.map (AX.val st)) = some t := by simp (disch := omega) only [CA, Nat.reduceEqDiff, ↓reduceIte, firstTok_nil, firstTok_sl, firstTok_sl0, firstTok_i, firstTok_b, firstTok_ag, firstTok_p, firstTok_s]; rfl) (c : ACalls P fid az (hb.plus h [t]) fun r h' => r = v ∧ h' = hb.plus h [t]) (k : evHead P base hb os (i + 1) (put d v st) h K) : evHR P base hb (.call ⟨d, none, .call f args⟩ os i st h) K := hr_callP1 hf ha ht c rfl k
theorem zrG {P : Program} {base i : Nat} {K : St → AH → Prop} {st : St} {h : AH} {d : Option Nat} {f : AX} {args : List AX} {os : List AOper} {fid : Nat} {fst caps : List AV} {az : List AV} {v : AV} {s : Nat} {want g : Bool} (hg : guardOf (st.get s) want = some g := by simp only [CA, simprocAttr]; rfl) (hf : f.val (stS g st) = .fn fid fst caps := by simp only [CA, simprocAttr]; rfl) (ha : fst ++ args.map (AX.val (stS g st)) ++ caps = az := by simp only [CA, simprocAttr]; rfl) (c : g = true → ACalls P fid az h fun r h' => r = v ∧ h' = h) (k : evOps P base os (i + 1) (put d (.gd g v) st) h K) : evR P base (.call ⟨d, some (s, want), .call f args⟩ os i st h) K := r_callG hg hf ha c rfl k
theorem zhG {P : Program} {base i : Nat} {K : St → AH → Prop} {st : St} {h : AH} {d : Option Nat} {f : AX} {args : List AX} {os : List AOper} {fid : Nat} {fst caps : List AV} {hb : AH} {az : List AV} {v : AV} {s : Nat} {want g : Bool} (hg : guardOf (st.get s) want = some g := by simp only [CA, simprocAttr]; rfl) (hf : f.val (stS g st) = .fn fid fst caps := by simp only [CA, simprocAttr]; rfl) (ha : fst ++ args.map (AX.val (stS g st)) ++ caps = az := by simp only [CA, simprocAttr]; rfl) (c : g = true → ACalls P fid az hb fun r h' => r = v ∧ h' = hb) (k : evHead P base hb os (i + 1) (put d (.gd g v) st) h K) : evHR P base hb (.call ⟨d, some (s, want), .call f args⟩ os i st h) K := hr_callG hg hf ha c rfl k
theorem ZK : (type_of% @List.map_cons) ∧ (type_of% @List.map_nil) ∧ (type_of% @GA) := ⟨@List.map_cons, @List.map_nil, @GA⟩
theorem zkP {P : Program} {N : Nat} {Q : Exit → St → AH → Prop} {K : St → AH → Prop} {st : St} {h : AH} {c : AX} {a b : AC} {t : Bool} {p : Prop} (h1 : p → W P N a (athen K Q) st h) (h2 : ¬ p → W P N b (athen K Q) st h) (ht : c.val st = .b t := by simp only [GA, simprocAttr]; rfl) (hp : (t = true) = p := by first | (simp only [BO]; rfl) | rfl) : W P N (.cond c a b) (athen K Q) st h := k_condP ht hp h1 h2
theorem pc56 (l : List Int) : PC Tryd.prog 85 [vi l] (.fn 90 [] [.pv [vi l] 0]) := by
 refine pc_fn fn85 (by simp only [AV.plains, AV.plain, il_plain, bl_plain, Bool.and_true, Bool.true_and, Bool.and_self, il_plain]) (by simp only [AV.plains, AV.plain, il_plain, bl_plain, Bool.and_true, Bool.true_and, Bool.and_self, il_plain]) (Nat.le_of_ble_eq_true rfl) ?_
 rw [initSt1]
 repeat' first | (with_reducible first | refine kzq ?_ | refine kzs ?_ | refine kzS ?_ | refine kzR ?_ | refine kzC ?_ | refine kzH ?_ | refine kzB ?_ | refine kzK ?_ | refine kzE ?_ | refine kzg ?_) | with_reducible refine r_done ?_ | with_reducible refine s_go (by simp (disch := omega) only [c85r0, c85r1, EVA, plug, eq_self, simprocAttr]; with_reducible rfl) ?_ | ((with_reducible refine kzr ?_); refine zrF ?_) | (with_reducible refine zkP (fun ht => ?_) (fun ht => ?_) <;> try first | exact False.elim ht | exact absurd rfl ht | exact absurd trivial ht | exact Bool.noConfusion ht) | (with_reducible (refine k_ret ?_; repeat first | refine kzt ?_ | refine kzb ?_ | refine fin ?_)) | (with_reducible (refine kzx ?_; repeat first | refine thru ?_ | refine kzo ?_ | refine pass (by decide) ?_)) | ((first | refine post1 ?_ | refine post2 ?_ | refine post3 ?_); simp only [GA, simprocAttr]) | refine post0 ?_
 exact ⟨_, .step (t := 1) (cs := [vi l]) (by simp (disch := omega) only [c85r0, c85r1, EVA, plug, eq_self, simprocAttr] <;> rfl) (FrzH.kill _ _ _) (.fn .nil (.cons .p .nil)) .done⟩
abbrev rec81 (sv : AV) (tb : Nat) (s : LoopState) : Blk := recB Tryd.prog 13 [(6, sv), (4, .sl 0 0 0 0), (2, .p tb 0), (0, .sl 0 0 0 0), (1, sv)] [7] c68a4 c68y4 s
structure App (sv : AV) (t tb x : Nat) (xs : List Int) (h : AH) : Prop where
 r : h.m t = some (rec81 sv tb .ready)
 b : h.m tb = some (.cells true [.sl x 0 xs.length 1])
 c : h.m x = some (.cells true (il xs))
 x0 : x ≠ 0
 t1 : t ≠ tb
 t2 : t ≠ x
 t3 : tb ≠ x
theorem RG68 : (type_of% @c68r0.eq_1) ∧ (type_of% @c68r1.eq_1) ∧ (type_of% @c68r2.eq_1) ∧ (type_of% @c68r3.eq_1) ∧ (type_of% @c68r5.eq_1) := ⟨@c68r0.eq_1, @c68r1.eq_1, @c68r2.eq_1, @c68r3.eq_1, @c68r5.eq_1⟩
theorem round81 {sv : AV} {t tb x : Nat} {xs : List Int} {v : Int} {h : AH} {K : AH → Prop} (ok : h.ok) (A : App sv t tb x xs h) (hn : xs.length ≤ 100000) (k : ∀ x' h', h.nx < x' → App sv t tb x' (xs ++ [v]) h' → (∀ s, s < h.nx → s ≠ x → s ≠ tb → h'.m s = h.m s) → h.nx ≤ h'.nx → K h') : YW Tryd.prog t [.i .i64 v] h K := by
 obtain ⟨hr, hb, hx, x0, t1, t2, t3⟩ := A
 have lt := ok.m hr
 have lb := ok.m hb
 have lx := ok.m hx
 have t1' : ¬ tb = t := fun q => t1 q.symm
 have t2' : ¬ x = t := fun q => t2 q.symm
 have t3' : ¬ x = tb := fun q => t3 q.symm
 refine ⟨13, _, _, _, _, hr, rfl, ?_⟩
 simp only [setPs]
 repeat' first | (with_reducible first | refine kzq ?_ | refine kzs ?_ | refine kzS ?_ | refine kzR ?_ | refine kzC ?_ | refine kzH ?_ | refine kzB ?_ | refine kzK ?_ | refine kzE ?_ | refine kzg ?_) | with_reducible refine r_done ?_ | with_reducible refine s_go (by simp (disch := omega) only [RG68, EV0, EV1, EV2, EV3, EV4, EV5, EV6, EV7, EV8, VALS, plug, ite_same, decide_true, decide_false, eq_self, simprocAttr]; with_reducible rfl) ?_ | ((with_reducible refine kzr ?_); refine zrF ?_) | (with_reducible refine zkP (fun ht => ?_) (fun ht => ?_) <;> try first | exact False.elim ht | exact absurd rfl ht | exact absurd trivial ht | exact Bool.noConfusion ht) | (with_reducible (refine k_ret ?_; repeat first | refine kzt ?_ | refine kzb ?_ | refine fin ?_)) | (with_reducible (refine kzx ?_; repeat first | refine thru ?_ | refine kzo ?_ | refine pass (by decide) ?_)) | ((first | refine post1 ?_ | refine post2 ?_ | refine post3 ?_); simp only [GA, simprocAttr]) | refine post0 ?_
 refine ⟨by simp (disch := omega) only [hr, RG68, EV0, EV1, EV2, EV3, EV4, EV5, EV6, EV7, EV8, VALS, plug, ite_same, decide_true, decide_false, eq_self, simprocAttr], ?_⟩
 repeat' first | (with_reducible first | refine kzq ?_ | refine kzs ?_ | refine kzS ?_ | refine kzR ?_ | refine kzC ?_ | refine kzH ?_ | refine kzB ?_ | refine kzK ?_ | refine kzE ?_ | refine kzg ?_) | with_reducible refine r_done ?_ | with_reducible refine s_go (by simp (disch := omega) only [hb, row_m hb, read_row (row_m hb), hx, x0, t1, t2, t3, t1', t2', t3', il_len, RG68, EV0, EV1, EV2, EV3, EV4, EV5, EV6, EV7, EV8, VALS, plug, ite_same, decide_true, decide_false, eq_self, simprocAttr]; with_reducible rfl) ?_ | ((with_reducible refine kzr ?_); refine zrF ?_) | (with_reducible refine zkP (fun ht => ?_) (fun ht => ?_) <;> try first | exact False.elim ht | exact absurd rfl ht | exact absurd trivial ht | exact Bool.noConfusion ht) | (with_reducible (refine k_ret ?_; repeat first | refine kzt ?_ | refine kzb ?_ | refine fin ?_)) | (with_reducible (refine kzx ?_; repeat first | refine thru ?_ | refine kzo ?_ | refine pass (by decide) ?_)) | ((first | refine post1 ?_ | refine post2 ?_ | refine post3 ?_); simp only [GA, simprocAttr]) | refine post0 ?_
 have f1 : ¬ t = h.nx + 1 + 3 := by omega
 have f2 : ¬ tb = h.nx + 1 + 3 := by omega
 have f3 : ¬ t = h.nx + 1 + 2 := by omega
 refine ⟨by simp (disch := omega) only [t1, t2, f1, f3, RG68, EV0, EV1, EV2, EV3, EV4, EV5, EV6, EV7, EV8, VALS, plug, ite_same, decide_true, decide_false, eq_self, simprocAttr], k (h.nx + 1 + 3) _ (by omega) ⟨by simp (disch := omega) only [RG68, EV0, EV1, EV2, EV3, EV4, EV5, EV6, EV7, EV8, VALS, plug, ite_same, decide_true, decide_false, eq_self, simprocAttr] <;> rfl, ?_, ?_, by omega, t1, f1, f2⟩ (fun s s1 s2 s3 => ?_) (by simp (disch := omega) only [RG68, EV0, EV1, EV2, EV3, EV4, EV5, EV6, EV7, EV8, VALS, plug, ite_same, decide_true, decide_false, eq_self, simprocAttr] <;> omega)⟩
 ·rw [List.length_append, List.length_singleton]
  simp (disch := omega) only [t1', RG68, EV0, EV1, EV2, EV3, EV4, EV5, EV6, EV7, EV8, VALS, plug, ite_same, decide_true, decide_false, eq_self, simprocAttr] <;> rfl
 ·have g1 : ¬ h.nx + 1 + 3 = t := by omega
  have g2 : ¬ h.nx + 1 + 3 = tb := by omega
  simp (disch := omega) only [g1, g2, RG68, EV0, EV1, EV2, EV3, EV4, EV5, EV6, EV7, EV8, VALS, plug, ite_same, decide_true, decide_false, eq_self, simprocAttr] <;> rfl
 ·have s4 : ¬ s = h.nx + 1 + 3 := by omega
  have s5 : ¬ s = h.nx + 1 + 2 := by omega
  by_cases e : s = t
  ·subst e
   rw [hr]
   simp (disch := omega) only [RG68, EV0, EV1, EV2, EV3, EV4, EV5, EV6, EV7, EV8, VALS, plug, ite_same, decide_true, decide_false, eq_self, simprocAttr] <;> rfl
  ·simp (disch := omega) only [e, s2, s3, s4, s5, RG68, EV0, EV1, EV2, EV3, EV4, EV5, EV6, EV7, EV8, VALS, plug, ite_same, decide_true, decide_false, eq_self, simprocAttr]
theorem end81 {sv : AV} {t tb x : Nat} {xs : List Int} {h : AH} {n : Nat} (hn : n = xs.length) (A : App sv t tb x xs h) :
 W0 Tryd.prog 13 (.seq (.reg c68r5) .ret) (athen (Post q68 fun r h'' => ∃ s, r = plug none s ∧ IsNew 1 n (il xs) s h'') (Fin (Post q68 fun r h'' => ∃ s, r = plug none s ∧ IsNew 1 n (il xs) s h''))) [(6, sv), (4, .sl 0 0 0 0), (2, .p tb 0), (0, .sl 0 0 0 0), (1, sv)] (h.kill t) := by
 subst hn
 obtain ⟨hr, hb, hx, x0, t1, t2, t3⟩ := A
 have t1' : ¬ tb = t := fun q => t1 q.symm
 have t2' : ¬ x = t := fun q => t2 q.symm
 have hb' : (h.kill t).m tb = some (.cells true [.sl x 0 xs.length 1]) := by simp only [AH.kill, t1', if_false]; exact hb
 have hx' : (h.kill t).m x = some (.cells true (il xs)) := by simp only [AH.kill, t2', if_false]; exact hx
 refine w0_of ?_
 repeat' first | (with_reducible first | refine kzq ?_ | refine kzs ?_ | refine kzS ?_ | refine kzR ?_ | refine kzC ?_ | refine kzH ?_ | refine kzB ?_ | refine kzK ?_ | refine kzE ?_ | refine kzg ?_) | with_reducible refine r_done ?_ | with_reducible refine s_go (by simp (disch := omega) only [hb', row_m hb', read_row (row_m hb'), RG68, EV0, EV1, EV2, EV3, EV4, EV5, EV6, EV7, EV8, VALS, plug, ite_same, decide_true, decide_false, eq_self, simprocAttr]; with_reducible rfl) ?_ | ((with_reducible refine kzr ?_); refine zrF ?_) | (with_reducible refine zkP (fun ht => ?_) (fun ht => ?_) <;> try first | exact False.elim ht | exact absurd rfl ht | exact absurd trivial ht | exact Bool.noConfusion ht) | (with_reducible (refine k_ret ?_; repeat first | refine kzt ?_ | refine kzb ?_ | refine fin ?_)) | (with_reducible (refine kzx ?_; repeat first | refine thru ?_ | refine kzo ?_ | refine pass (by decide) ?_)) | ((first | refine post1 ?_ | refine post2 ?_ | refine post3 ?_); simp only [GA, simprocAttr]) | refine post0 ?_
 exact ⟨_, rfl, x, 0, 1, rfl, .inr ⟨il xs, rfl, by simp (disch := omega) only [hx', RG68, EV0, EV1, EV2, EV3, EV4, EV5, EV6, EV7, EV8, VALS, plug, ite_same, decide_true, decide_false, eq_self, simprocAttr], by rw [il_len]; omega, by rw [List.drop_zero, List.take_of_length_le (by rw [il_len]; omega)]⟩⟩
theorem RG90 : (type_of% @c90r0.eq_1) ∧ (type_of% @c90r1.eq_1) ∧ (type_of% @c90r2.eq_1) ∧ (type_of% @c90r3.eq_1) ∧ (type_of% @c90r4.eq_1) := ⟨@c90r0.eq_1, @c90r1.eq_1, @c90r2.eq_1, @c90r3.eq_1, @c90r4.eq_1⟩
set_option maxHeartbeats 1000000 in
theorem n81 (l : List Int) (hl : l.length ≤ 1000) (h : AH) : FCalls Tryd.prog 68 [.sl 0 0 0 0, .fn 90 [] [.pv [vi l] 0]] h none l.length 1 (il l) := by
 refine fresh_call rfl (il_plain _) fun h0 hr _ => ?_
 refine a_fn0 fn68 (by simp) fun ok pos => ?_
 rw [initSt2]
 refine k0_seq ?_
 repeat' first | (with_reducible first | refine kzq ?_ | refine kzs ?_ | refine kzS ?_ | refine kzR ?_ | refine kzC ?_ | refine kzH ?_ | refine kzB ?_ | refine kzK ?_ | refine kzE ?_ | refine kzg ?_) | with_reducible refine r_done ?_ | with_reducible refine s_go (by simp (disch := omega) only [RG68, EV0, EV1, EV2, EV3, EV4, EV5, EV6, EV7, EV8, VALS, plug, ite_same, decide_true, decide_false, eq_self, simprocAttr]; with_reducible rfl) ?_ | ((with_reducible refine kzr ?_); refine zrF ?_) | (with_reducible refine k_condP (by simp only [GA, simprocAttr]; rfl) (by first | (simp only [BO]; rfl) | rfl) (fun ht => ?_) (fun ht => ?_) <;> try (first | exact False.elim ht | exact absurd rfl ht | exact absurd trivial ht | exact Bool.noConfusion ht)) | (with_reducible (refine k_ret ?_; repeat first | refine kzt ?_ | refine kzb ?_ | refine fin ?_)) | (with_reducible (refine kzx ?_; repeat first | refine thru ?_ | refine kzo ?_ | refine pass (by decide) ?_)) | ((first | refine post1 ?_ | refine post2 ?_ | refine post3 ?_); simp only [GA, simprocAttr]) | refine post0 ?_
 refine k0_seq0 (k0_seq ?_)
 refine w_virtH 1 (s := h0.nx) (ds := [.sl 0 0 0 0]) (i := 0) (by simp (disch := omega) only [RG68, EV0, EV1, EV2, EV3, EV4, EV5, EV6, EV7, EV8, VALS, plug, ite_same, decide_true, decide_false, eq_self, simprocAttr] <;> rfl) rfl fun pos1 lt1 => ?_
 repeat' first | (with_reducible first | refine kzq ?_ | refine kzs ?_ | refine kzS ?_ | refine kzR ?_ | refine kzC ?_ | refine kzH ?_ | refine kzB ?_ | refine kzK ?_ | refine kzE ?_ | refine kzg ?_) | with_reducible refine r_done ?_ | with_reducible refine s_go (by simp (disch := omega) only [RG68, EV0, EV1, EV2, EV3, EV4, EV5, EV6, EV7, EV8, VALS, plug, ite_same, decide_true, decide_false, eq_self, simprocAttr]; with_reducible rfl) ?_ | ((with_reducible refine kzr ?_); refine zrF ?_) | (with_reducible refine k_condP (by simp only [GA, simprocAttr]; rfl) (by first | (simp only [BO]; rfl) | rfl) (fun ht => ?_) (fun ht => ?_) <;> try (first | exact False.elim ht | exact absurd rfl ht | exact absurd trivial ht | exact Bool.noConfusion ht)) | (with_reducible (refine k_ret ?_; repeat first | refine kzt ?_ | refine kzb ?_ | refine fin ?_)) | (with_reducible (refine kzx ?_; repeat first | refine thru ?_ | refine kzo ?_ | refine pass (by decide) ?_)) | ((first | refine post1 ?_ | refine post2 ?_ | refine post3 ?_); simp only [GA, simprocAttr]) | refine post0 ?_
 refine k0_blk (w0_rf rfl fun ok2 pos2 => ?_)
 simp only [List.nil_append, List.cons_append]
 refine i_fn fn90 rfl (by simp) fun ok3 pos3 => ?_
 rw [initSt2]
 repeat' first | (with_reducible first | refine kzq ?_ | refine kzs ?_ | refine kzS ?_ | refine kzR ?_ | refine kzC ?_ | refine kzH ?_ | refine kzB ?_ | refine kzK ?_ | refine kzE ?_ | refine kzg ?_) | with_reducible refine r_done ?_ | with_reducible refine s_go (by simp (disch := omega) only [RG90, EV0, EV1, EV2, EV3, EV4, EV5, EV6, EV7, EV8, VALS, plug, ite_same, decide_true, decide_false, eq_self, simprocAttr]; with_reducible rfl) ?_ | ((with_reducible refine kzr ?_); refine zrF ?_) | (with_reducible refine k_condP (by simp only [GA, simprocAttr]; rfl) (by first | (simp only [BO]; rfl) | rfl) (fun ht => ?_) (fun ht => ?_) <;> try (first | exact False.elim ht | exact absurd rfl ht | exact absurd trivial ht | exact Bool.noConfusion ht)) | (with_reducible (refine k_ret ?_; repeat first | refine kzt ?_ | refine kzb ?_ | refine fin ?_)) | (with_reducible (refine kzx ?_; repeat first | refine thru ?_ | refine kzo ?_ | refine pass (by decide) ?_)) | ((first | refine post1 ?_ | refine post2 ?_ | refine post3 ?_); simp only [GA, simprocAttr]) | refine post0 ?_
 refine k_blk (k_loopS (X := Nat) [0, 5, 6, 7] l.length (fun k x => [(0, .fy (h0.nx + 2 + 1 + 1)), (5, vi l), (6, .i .i64 l.length), (7, .i .i64 (k : Int))])
  (fun k x h => App (.fn 90 [] [.pv [vi l] 0]) (h0.nx + 2 + 1 + 1) h0.nx x (l.take k) h) _ (by simp only [Am.keep, List.map_cons, List.map_nil, GA, simprocAttr]; try rfl) ⟨by simp (disch := omega) only [RG90, EV0, EV1, EV2, EV3, EV4, EV5, EV6, EV7, EV8, VALS, plug, ite_same, decide_true, decide_false, eq_self, simprocAttr] <;> rfl, by simp (disch := omega) only [RG90, EV0, EV1, EV2, EV3, EV4, EV5, EV6, EV7, EV8, VALS, plug, ite_same, decide_true, decide_false, eq_self, simprocAttr] <;> rfl, by simp (disch := omega) only [RG90, EV0, EV1, EV2, EV3, EV4, EV5, EV6, EV7, EV8, VALS, plug, ite_same, decide_true, decide_false, eq_self, simprocAttr] <;> rfl, by omega, by omega, by omega, by omega⟩ ?_)
 rintro k x h2 hk A ok4 pos4
 by_cases klt : k < l.length
 ·have klt' : (k : Int) < l.length := by omega
  have g := il_get klt
  repeat' first | with_reducible refine kzq ?_ | with_reducible refine kzs ?_ | with_reducible refine kzS ?_ | with_reducible refine kzR ?_ | with_reducible refine kzC ?_ | with_reducible refine kzH ?_ | with_reducible refine kzB ?_ | with_reducible refine kzK ?_ | with_reducible refine kzE ?_ | (fail_if_success (with_reducible refine kzg (ops := c90r3) ?_)); with_reducible refine kzg ?_ | with_reducible refine r_done ?_ | with_reducible refine s_go (by simp (disch := omega) only [klt', g, RG90, EV0, EV1, EV2, EV3, EV4, EV5, EV6, EV7, EV8, VALS, plug, ite_same, decide_true, decide_false, eq_self, simprocAttr]; with_reducible rfl) ?_ | ((with_reducible refine kzr ?_); refine zrF ?_) | (with_reducible refine k_condP (by simp only [GA, simprocAttr]; rfl) (by first | (simp only [BO]; rfl) | rfl) (fun ht => ?_) (fun ht => ?_) <;> try (first | exact False.elim ht | exact absurd rfl ht | exact absurd trivial ht | exact Bool.noConfusion ht)) | (with_reducible refine k_ret ?_; repeat with_reducible (first | refine kzt ?_ | refine kzb ?_ | refine fin ?_)) | (with_reducible refine kzx ?_; repeat with_reducible (first | refine thru ?_ | refine kzo ?_ | refine pass (by decide) ?_)) | ((first | refine post1 ?_ | refine post2 ?_ | refine post3 ?_); simp only [GA, simprocAttr]) | refine post0 ?_
  refine k_yld 2 rfl ?_
  refine s_go (by simp (disch := omega) only [List.take_succ_cons, List.take_zero, RG90, EV0, EV1, EV2, EV3, EV4, EV5, EV6, EV7, EV8, VALS, plug, ite_same, decide_true, decide_false, eq_self, simprocAttr]; with_reducible rfl) ?_
  refine r_done ?_
  refine ⟨_, rfl, ?_⟩
  refine round81 (x := x) (xs := l.take k) (v := l.getD k 0) (fun t b hb => by have := ok4 t b hb; simp only [AH.bump_nx]; omega) ⟨A.r, A.b, A.c, A.x0, A.t1, A.t2, A.t3⟩ (by rw [List.length_take]; omega) fun x' h' hx' A' kp nx => ?_
  refine s_go (by simp (disch := omega) only [List.drop_succ_cons, List.drop_zero, RG90, EV0, EV1, EV2, EV3, EV4, EV5, EV6, EV7, EV8, VALS, plug, ite_same, decide_true, decide_false, eq_self, simprocAttr]; with_reducible rfl) ?_
  refine r_done ?_
  repeat' first | (with_reducible first | refine kzq ?_ | refine kzs ?_ | refine kzS ?_ | refine kzR ?_ | refine kzC ?_ | refine kzH ?_ | refine kzB ?_ | refine kzK ?_ | refine kzE ?_ | refine kzg ?_) | with_reducible refine r_done ?_ | with_reducible refine s_go (by simp (disch := omega) only [RG90, EV0, EV1, EV2, EV3, EV4, EV5, EV6, EV7, EV8, VALS, plug, ite_same, decide_true, decide_false, eq_self, simprocAttr]; with_reducible rfl) ?_ | ((with_reducible refine kzr ?_); refine zrF ?_) | (with_reducible refine k_condP (by simp only [GA, simprocAttr]; rfl) (by first | (simp only [BO]; rfl) | rfl) (fun ht => ?_) (fun ht => ?_) <;> try (first | exact False.elim ht | exact absurd rfl ht | exact absurd trivial ht | exact Bool.noConfusion ht)) | (with_reducible (refine k_ret ?_; repeat first | refine kzt ?_ | refine kzb ?_ | refine fin ?_)) | (with_reducible (refine kzx ?_; repeat first | refine thru ?_ | refine kzo ?_ | refine pass (by decide) ?_)) | ((first | refine post1 ?_ | refine post2 ?_ | refine post3 ?_); simp only [GA, simprocAttr]) | refine post0 ?_
  have et : l.take k ++ [l.getD k 0] = l.take (k + 1) := by
   rw [List.take_add_one, List.getElem?_eq_getElem klt]
   simp [List.getD_eq_getElem?_getD, klt]
  rw [et] at A'
  exact ⟨klt, x', (by simp only [Am.keep, List.map_cons, List.map_nil, GA, simprocAttr]; try rfl), ⟨A'.r, A'.b, A'.c, A'.x0, A'.t1, A'.t2, A'.t3⟩⟩
 ·obtain rfl : k = l.length := by omega
  have klt' : ¬ (l.length : Int) < l.length := by omega
  repeat' first | (with_reducible first | refine kzq ?_ | refine kzs ?_ | refine kzS ?_ | refine kzR ?_ | refine kzC ?_ | refine kzH ?_ | refine kzB ?_ | refine kzK ?_ | refine kzE ?_ | refine kzg ?_) | with_reducible refine r_done ?_ | with_reducible refine s_go (by simp (disch := omega) only [klt', RG90, EV0, EV1, EV2, EV3, EV4, EV5, EV6, EV7, EV8, VALS, plug, ite_same, decide_true, decide_false, eq_self, simprocAttr]; with_reducible rfl) ?_ | ((with_reducible refine kzr ?_); refine zrF ?_) | (with_reducible refine k_condP (by simp only [GA, simprocAttr]; rfl) (by first | (simp only [BO]; rfl) | rfl) (fun ht => ?_) (fun ht => ?_) <;> try (first | exact False.elim ht | exact absurd rfl ht | exact absurd trivial ht | exact Bool.noConfusion ht)) | (with_reducible (refine k_ret ?_; repeat first | refine kzt ?_ | refine kzb ?_ | refine fin ?_)) | (with_reducible (refine kzx ?_; repeat first | refine thru ?_ | refine kzo ?_ | refine pass (by decide) ?_)) | ((first | refine post1 ?_ | refine post2 ?_ | refine post3 ?_); simp only [GA, simprocAttr]) | refine post0 ?_
  rw [List.take_length] at A
  exact ⟨A.r, end81 rfl ⟨A.r, A.b, A.c, A.x0, A.t1, A.t2, A.t3⟩⟩
end Go.Proofs.YtjaihaccehaicaaDoor
namespace Go.Proofs.YtjaihaccehaicaaDoor
open Go Go.Shelf Go.Proofs
def sortI_ren : Go.Shelf.Ren := ⟨fun | 53 => 89 | 64 => 92 | 63 => 91 | 78 => 102 | 79 => 103 | 70 => 93 | 71 => 94 | 72 => 95 | 73 => 96 | 74 => 97 | 75 => 98 | 59 => 99 | 76 => 100 | 77 => 101 | 88 => 104 | 89 => 105 | 90 => 106 | 91 => 107 | 92 => 108 | 68 => 87 | 96 => 109 | n => n, fun | 22 => 31 | 23 => 3 | 3 => 3 | 51 => 107 | 0 => 0 | 67 => 121 | 69 => 62 | 4 => 4 | 61 => 115 | 60 => 114 | 44 => 83 | 5 => 5 | 9 => 9 | 75 => 122 | 79 => 126 | 83 => 128 | 84 => 129 | n => n, fun | n => n⟩
theorem sortI : Go.Proofs.SlLaysN.n53 Tryd.prog sortI_ren := {
 mixed := by kernel_rfl
 f53 := ⟨Tryd.f89.name, by decide, Tryd.func89.trans (congrArg some (by kernel_rfl))⟩
 f59 := ⟨Tryd.f99.name, by decide, Tryd.func99.trans (congrArg some (by kernel_rfl))⟩
 f63 := ⟨Tryd.f91.name, by decide, Tryd.func91.trans (congrArg some (by kernel_rfl))⟩
 f64 := Tryd.func92.trans (congrArg some (by kernel_rfl))
 f68 := ⟨Tryd.f87.name, by decide, Tryd.func87.trans (congrArg some (by kernel_rfl))⟩
 f70 := ⟨Tryd.f93.name, by decide, Tryd.func93.trans (congrArg some (by kernel_rfl))⟩
 f71 := ⟨Tryd.f94.name, by decide, Tryd.func94.trans (congrArg some (by kernel_rfl))⟩
 f72 := ⟨Tryd.f95.name, by decide, Tryd.func95.trans (congrArg some (by kernel_rfl))⟩
 f73 := ⟨Tryd.f96.name, by decide, Tryd.func96.trans (congrArg some (by kernel_rfl))⟩
 f74 := ⟨Tryd.f97.name, by decide, Tryd.func97.trans (congrArg some (by kernel_rfl))⟩
 f75 := ⟨Tryd.f98.name, by decide, Tryd.func98.trans (congrArg some (by kernel_rfl))⟩
 f76 := ⟨Tryd.f100.name, by decide, Tryd.func100.trans (congrArg some (by kernel_rfl))⟩
 f77 := ⟨Tryd.f101.name, by decide, Tryd.func101.trans (congrArg some (by kernel_rfl))⟩
 f78 := Tryd.func102.trans (congrArg some (by kernel_rfl))
 f79 := Tryd.func103.trans (congrArg some (by kernel_rfl))
 f88 := ⟨Tryd.f104.name, by decide, Tryd.func104.trans (congrArg some (by kernel_rfl))⟩
 f89 := Tryd.func105.trans (congrArg some (by kernel_rfl))
 f90 := Tryd.func106.trans (congrArg some (by kernel_rfl))
 f91 := ⟨Tryd.f107.name, by decide, Tryd.func107.trans (congrArg some (by kernel_rfl))⟩
 f92 := ⟨Tryd.f108.name, by decide, Tryd.func108.trans (congrArg some (by kernel_rfl))⟩
 f96 := ⟨Tryd.f109.name, by decide, Tryd.func109.trans (congrArg some (by kernel_rfl))⟩
 t0 := Tryd.underlying0
 a0 := Tryd.isAgg0
 z0 := Tryd.sizeOf0
 v0 := Tryd.zeroValue0
 t3 := Tryd.underlying3
 a3 := Tryd.isAgg3
 z3 := Tryd.sizeOf3
 v3 := Tryd.zeroValue3
 t4 := Tryd.underlying4
 a4 := Tryd.isAgg4
 z4 := Tryd.sizeOf4
 v4 := Tryd.zeroValue4
 t5 := Tryd.underlying5
 a5 := Tryd.isAgg5
 z5 := Tryd.sizeOf5
 v5 := Tryd.zeroValue5
 t9 := Tryd.underlying9
 a9 := Tryd.isAgg9
 z9 := Tryd.sizeOf9
 v9 := Tryd.zeroValue9
 t22 := Tryd.underlying31
 a22 := Tryd.isAgg31
 z22 := Tryd.sizeOf31
 v22 := Tryd.zeroValue31
 t23 := Tryd.underlying3
 a23 := Tryd.isAgg3
 z23 := Tryd.sizeOf3
 v23 := Tryd.zeroValue3
 t44 := Tryd.underlying83
 a44 := Tryd.isAgg83
 z44 := Tryd.sizeOf83
 v44 := Tryd.zeroValue83
 t51 := Tryd.underlying107
 a51 := Tryd.isAgg107
 z51 := Tryd.sizeOf107
 v51 := Tryd.zeroValue107
 t60 := Tryd.underlying114
 a60 := Tryd.isAgg114
 z60 := Tryd.sizeOf114
 v60 := Tryd.zeroValue114
 t61 := Tryd.underlying115
 a61 := Tryd.isAgg115
 z61 := Tryd.sizeOf115
 v61 := Tryd.zeroValue115
 t67 := Tryd.underlying121
 a67 := Tryd.isAgg121
 z67 := Tryd.sizeOf121
 v67 := Tryd.zeroValue121
 t69 := Tryd.underlying62
 a69 := Tryd.isAgg62
 z69 := Tryd.sizeOf62
 v69 := Tryd.zeroValue62
 t75 := Tryd.underlying122
 a75 := Tryd.isAgg122
 z75 := Tryd.sizeOf122
 v75 := Tryd.zeroValue122
 t79 := Tryd.underlying126
 a79 := Tryd.isAgg126
 z79 := Tryd.sizeOf126
 v79 := Tryd.zeroValue126
 t83 := Tryd.underlying128
 a83 := Tryd.isAgg128
 z83 := Tryd.sizeOf128
 v83 := Tryd.zeroValue128
 t84 := Tryd.underlying129
 a84 := Tryd.isAgg129
 z84 := Tryd.sizeOf129
 v84 := Tryd.zeroValue129 }
end Go.Proofs.YtjaihaccehaicaaDoor
set_option linter.unusedVariables false
set_option linter.unusedSimpArgs false
namespace Go.Am
open Go.Proofs Go.Shelf Go.Sort
section
variable {P : Program} {ρ : Ren}
theorem hE_int : Enc1 (AV.i .i64) (Value.int .i64) := ⟨fun ι x v => by simp only [VRel], fun x => rfl, fun x => rfl⟩
set_option maxHeartbeats 1000000 in
theorem sort_int (L : SlLaysN.n53 P ρ) {h : AH} {t a : Nat} {d : List Int} (hm : h.m t = some (.cells true (d.map (AV.i .i64)))) (hlen : d.length < 4611686018427387904) :
 ACalls P (ρ.f 53) [.sl t 0 d.length a] h fun r h' => r = .tu [] ∧ h' = h.set t (.cells true ((d.mergeSort fun x y => decide (x ≤ y)).map (AV.i .i64))) := by
 have hE := hE_int
 refine ⟨?_, fun ι w vs wr hv => ?_⟩
 ·obtain ⟨nm, hn, hf⟩ := L.f53
  exact ⟨_, hf, hn, rfl⟩
 simp only [VRels] at hv
 obtain ⟨sv, r1, ev, hs, rfl⟩ := hv
 obtain rfl : vs = #[sv] := by cases vs; simp_all
 by_cases hd0 : d = []
 ·subst hd0
  have hslice : ∃ p cap, sv = .slice p 0 cap := by
   simp only [VRel] at hs
   rcases hs with ⟨_, x, rfl⟩ | ⟨l, cap, _, rfl, _⟩
   ·exact ⟨_, _, rfl⟩
   ·exact ⟨_, _, rfl⟩
  obtain ⟨p, cap, rfl⟩ := hslice
  refine Calls.mono (AnyG.slices_Sort_int_none (P := P) (ρ := ρ) L p cap w) fun e w' ⟨he, hw⟩ => ?_
  subst hw
  have e0 : ((([] : List Int).mergeSort fun x y => decide (x ≤ y)).map (AV.i .i64)) = [] := by simp
  rw [e0]
  have es : h.set t (.cells true []) = h := set_self hm
  exact ⟨.tuple #[], .tu [], _, ι, he, ⟨rfl, rfl⟩, by simp only [VRel]; exact ⟨#[], rfl, by simp [VRels]⟩, by rw [es]; exact wr, by rw [es]; exact .refl _ _ _⟩
 have hdl : d.length ≠ 0 := fun e => hd0 (List.length_eq_zero_iff.1 e)
 simp only [VRel] at hs
 rcases hs with ⟨h0, _⟩ | ⟨l, cap, hl, rfl, hcap, _⟩
 ·exact absurd h0 hdl
 have hb := (wr.blk t _ hm).2
 simp only [BRel] at hb
 rcases hb with ⟨he, _⟩ | ⟨l', vs, e, fz, hl', hh, h3, h4, h5, h6⟩
 ·exact absurd (by simpa using he) hd0
 rw [hl] at hl'; cases hl'
 have hfz := h5 trivial
 subst hfz
 simp only [Nat.add_zero]
 have hcell : ∀ j, j < d.length → ∃ x, d[j]? = some x ∧ vs[l.sh + j]? = some ((Value.int .i64) x) := fun j hj => by
  obtain ⟨u, hu, hr⟩ := h6 j (AV.i .i64 d[j]) (by simp [hj])
  rw [hE.rel] at hr
  subst hr
  exact ⟨d[j], by simp [hj], hu⟩
 have hH : Holds (Value.int .i64) w l.b l.sh d.toArray := fun j hj => by
  obtain ⟨x, hx, hc⟩ := hcell j (by simpa using hj)
  refine ⟨?_, ?_⟩
  ·simp only [World.cell?, hh]
   rw [if_neg (by simp), hc]
   have : d.toArray[j]! = x := by simp [getElem!_def, hx]
   rw [this]
  ·simp [World.frozen?, hh]
 have hblk : l.b < w.heap.size := (wr.lt t l hl).2
 refine Calls.mono (AnyG.slices_Sort_int L l.b l.sh cap d w hH hblk (by simpa using hlen)) fun e' w' he => ?_
 obtain ⟨he, n, os, hw⟩ := he
 change w' = sortWorld (Value.int .i64) w l.b l.sh n _ os at hw
 generalize hsd : (d.mergeSort fun x y => decide (x ≤ y)) = d' at hw ⊢
 have hlen' : d'.length = d.length := by rw [← hsd]; exact List.length_mergeSort _
 obtain ⟨p1, p2, p3⟩ := putRow_heap (Value.int .i64) w l.b l.sh n d'.toArray os hh
 rw [← hw] at p1 p2 p3
 have hbr : BRel ι w' t (.cells true (d'.map (AV.i .i64))) := by
  simp only [BRel]
  refine .inr ⟨l, _, e, _, hl, p1, by simp [putCells, h3], by simpa [hlen'] using h4, fun _ => rfl, fun i a ha => ?_⟩
  simp only [List.getElem?_map, Option.map_eq_some_iff] at ha
  obtain ⟨x, hx, rfl⟩ := ha
  have hi : i < d'.length := (List.getElem?_eq_some_iff.1 hx).1
  obtain ⟨_, _, hc⟩ := hcell i (by omega)
  refine ⟨Value.int .i64 x, ?_, (hE.rel _ _ _).2 rfl⟩
  simp only [putCells, Array.getElem?_mapIdx, hc, Option.map_some]
  rw [if_pos ⟨by omega, by simp; omega⟩]
  have : d'.toArray[l.sh + i - l.sh]! = x := by simp [getElem!_def, hx]
  rw [this]
 -- the step within the old blocks, then the new ones
 let w1 : World := { w with heap := w.heap.modify l.b (onCells (putCells (Value.int .i64) l.sh d'.toArray)) }
 have k1 : w1.heap.size = w.heap.size := by simp [w1]
 have k2 : ∀ b, b ≠ l.b → w1.heap[b]? = w.heap[b]? := fun b hb => by simp [w1, Array.getElem?_modify, Ne.symm hb]
 have k3 : ∀ b, b < w1.heap.size → w'.heap[b]? = w1.heap[b]? := fun b hb => by
  rw [k1] at hb
  by_cases e' : b = l.b
  ·subst e'
   rw [p1]
   simp only [w1, Array.getElem?_modify, if_pos, hh]; rfl
  ·rw [p2 b hb e', k2 b e']
 have k4 : w1.heap.size ≤ w'.heap.size := by rw [k1]; exact p3
 have hbr1 : BRel ι w1 t (.cells true (d'.map (AV.i .i64))) := hbr.mono (Inj.le_refl _) rfl fun l2 hl2 => by
  rw [hl] at hl2; cases hl2
  rw [k3 l.b (by rw [k1]; exact hblk)]
 have wr1 := wr.refit hm rfl hl k1 k2 hbr1
 have ex1 := (Ext.refl ι h w).refit (bk := .cells true (d'.map (AV.i .i64))) hm rfl hl k1 k2 (Nat.le_refl _) rfl rfl rfl
 have o1 : w'.os = w1.os := by rw [hw]; rfl
 have o2 : w'.tape = w1.tape := by rw [hw]; rfl
 have o3 : w'.output = w1.output := by rw [hw]; rfl
 have o4 : w1.drawn ≤ w'.drawn := by rw [hw]; show w.drawn ≤ w.drawn + n; omega
 exact ⟨.tuple #[], .tu [], _, ι, he, ⟨rfl, rfl⟩, by simp only [VRel]; exact ⟨#[], rfl, by simp [VRels]⟩, wr1.grown k4 k3, ex1.grown o1 o2 o3 k4 k3 o4⟩
end
end Go.Am
